/- query: a select, printed. -/
import Derived.Test.YtjcpccadmcglgaaGreatDoorZK35
set_option linter.unusedVariables false
set_option linter.unusedSimpArgs false
set_option maxRecDepth 100000
set_option maxHeartbeats 64000000
namespace Go.Proofs.YtjcpccadmcglgaaGreatDoor
open Go.Lib (hid)
section
open Go.RowKit
theorem pquery_any {X:Nat->Prop} {b:Nat} {acc:List ByteArray} {L:Lists} {s:Stmt} {w:World} (h:QAt X b acc w) (hs:SlsAt (fun k=>k<b) w L s) (ok:StOk s) (hacc:acc.length<=1000) :
 Calls Tryz.prog 76 #[.pointer (some ⟨b,0,none⟩),.agg (stC L s)] w (QStep X b (acc ++ queryP s) w):=by
 obtain ⟨⟨ca,cc,e1⟩,⟨na,nc,e2⟩,⟨ra,rc,e3⟩,⟨ea,ec,e4⟩,⟨wa,wc,e5⟩,⟨oa,oc,e6⟩⟩:=hs.shapes
 obtain ⟨Lc,Ln,Lr,Ls,Lw,Lo⟩:=L
 simp only at e1 e2 e3 e4 e5 e6
 subst e1 e2 e3 e4 e5 e6
 obtain ⟨sk,stb,snm,scols,snames,srow,ssets,swher,sj,sl,sr,sa,sorder,sm,sn⟩:=s
 simp only [stC] at *
 obtain ⟨Pst,hPst⟩:∃ Pst,Pst=QStep X b (acc ++ queryP ⟨sk,stb,snm,scols,snames,srow,ssets,swher,sj,sl,sr,sa,sorder,sm,sn⟩) w:=⟨_,rfl⟩
 have HPST:=hid hPst
 rw [<- hPst]
 clear hPst
 obtain ⟨W1,hW1⟩:∃ W,w.alloc (.cells #[.int .i64 sk,.string stb,.string snm,.slice ca scols.length cc,.slice na snames.length nc,.slice ra srow.length rc,.slice ea ssets.length ec,.slice wa swher.length wc,.string sj,.string sl,.string sr,.int .i64 sa,.slice oa sorder.length oc,.int .i64 sm,.int .i64 sn] 33)=W:=⟨_,rfl⟩
 have h1s:W1.heap.size=w.heap.size+1:=by rw [<- hW1];simp
 have b2:Below w.heap.size w W1:=by rw [<- hW1];exact (b0R).alloc (jR _) _
 have hb0:W1.heap[w.heap.size]? = some (.cells #[.int .i64 sk,.string stb,.string snm,.slice ca scols.length cc,.slice na snames.length nc,.slice ra srow.length rc,.slice ea ssets.length ec,.slice wa swher.length wc,.string sj,.string sl,.string sr,.int .i64 sa,.slice oa sorder.length oc,.int .i64 sm,.int .i64 sn] 33 (0,0)):=by rw [<- hW1];exact heap_alloc_new _ _
 obtain ⟨Y,hY⟩:∃ Y:Nat->Prop,Y=fun k=>X k \/ (w.heap.size<=k/\k<W1.heap.size):=⟨_,rfl⟩
 have Q2:=hid (show QAt Y b acc W1 by rw [hY];exact h.more b2 (fun _ hk=>Or.inl hk) (fun _ hk=>hk))
 have ZQ:=hid (show ∀ l e w',QStep Y b l W1 e w'->QStep X b l w e w' from fun l e w' s=>QStep.with h b2 (by rw [<- hY];exact s))
 have HK2:=hid (Kept.refl Y W1)
 have YO:=hid (show ∀ k,k<b->Y k from fun k hk=>by rw [hY];exact Or.inl (h.old k hk))
 have SB:=hid (show ∀ w',Kept Y W1 w'->w'.heap[w.heap.size]? = some (.cells #[.int .i64 sk,.string stb,.string snm,.slice ca scols.length cc,.slice na snames.length nc,.slice ra srow.length rc,.slice ea ssets.length ec,.slice wa swher.length wc,.string sj,.string sl,.string sr,.int .i64 sa,.slice oa sorder.length oc,.int .i64 sm,.int .i64 sn] 33 (0,0)) from fun w' k=>(k.block _ (by rw [hY];exact Or.inr ⟨by omega,by omega⟩) (jB hb0)).trans hb0)
 have LK:=hid (show ∀ w',Kept Y W1 w'->SlsAt (fun k=>k<b) w' ⟨.slice ca scols.length cc,.slice na snames.length nc,.slice ra srow.length rc,.slice ea ssets.length ec,.slice wa swher.length wc,.slice oa sorder.length oc⟩ ⟨sk,stb,snm,scols,snames,srow,ssets,swher,sj,sl,sr,sa,sorder,sm,sn⟩ from fun w' k=>(hs.below b2).keep fun j hj hlt=>k.block j (YO.out j hj) hlt)
 have OK:=hid ok
 clear h hs ok b2 hY hb0
 have zk:=jC (SB.out _ HK2.out) 0
 simp only [gT,gZ,gS] at zk
 go_enter Tryz.func76,Tryz.ntmps76
 have con:=add_words (w1:=W1.alloc (.cells (([w_select]:List ByteArray).map Value.string).toArray 9)) [w_select] (by simp) Q2.out rfl (by show acc.length+1<=1000000;omega)
 rw [h1s] at con
 go_wp2_with fail
 refine con.mono ?_
 rintro e w3 ⟨rfl,k3,q3⟩
 obtain ⟨A3,hA3⟩:∃ A,A=acc ++ ([w_select]:List ByteArray):=⟨_,rfl⟩
 have hL3:A3.length<=1001:=by
  rw [hA3,List.length_append]
  show acc.length+1<=1001;omega
 rw [<- hA3] at q3
 have EA3:=hid hA3
 have HK3:=hid (HK2.out.trans k3)
 have Q3:=hid q3
 clear con k3 q3 hA3
 clear zk
 by_cases c1:sa=1
 · have HA:=hid (show (if sa=1 then [w_countAll] else if 0<sa/\snames.length=1 then [aggS sa ++ w_lp ++ snames.headD noStr ++ w_rp] else namesP snames)=[w_countAll] from if_pos c1)
   have d1:(sa == 1)=true:=by simpa using c1
   have z11:=jC (SB.out _ HK3.out) 11
   simp only [gT,gZ,gS] at z11
   have con:=add_words (w1:=w3.alloc (.cells (([w_countAll]:List ByteArray).map Value.string).toArray 9)) [w_countAll] (by simp) Q3.out rfl (by show A3.length+1<=1000000;omega)
   go_wp2_with fail
   refine con.mono ?_
   rintro e w4 ⟨rfl,k4,q4⟩
   obtain ⟨A4,hA4⟩:∃ A,A=A3 ++ ([w_countAll]:List ByteArray):=⟨_,rfl⟩
   have hL4:A4.length<=1002:=by
    rw [hA4,List.length_append]
    show A3.length+1<=1002;omega
   rw [<- hA4] at q4
   have EA4:=hid hA4
   have HK4:=hid (HK3.out.trans k4)
   have Q4:=hid q4
   clear con k4 q4 hA4
   clear z11 d1 c1
   have z1:=jC (SB.out _ HK4.out) 1
   simp only [gT,gZ,gS] at z1
   have con:=add_words (w1:=w4.alloc (.cells (([w_from,stb]:List ByteArray).map Value.string).toArray 9)) [w_from,stb] (by simp) Q4.out rfl (by show A4.length+2<=1000000;omega)
   go_wp2_with fail
   refine con.mono ?_
   rintro e w5 ⟨rfl,k5,q5⟩
   obtain ⟨A5,hA5⟩:∃ A,A=A4 ++ ([w_from,stb]:List ByteArray):=⟨_,rfl⟩
   have hL5:A5.length<=10000:=by
    rw [hA5,List.length_append]
    show A4.length+2<=10000;omega
   rw [<- hA5] at q5
   have EA5:=hid hA5
   have HK5:=hid (HK4.out.trans k5)
   have Q5:=hid q5
   clear con k5 q5 hA5
   clear z1
   by_cases c8:sj=noStr
   · have HJN:=hid (show (if sj=noStr then ([]:List ByteArray) else [w_join,sj,w_on,sl,w_eq,sr])=[] from if_pos c8)
     obtain ⟨d8,d9⟩:=str_none c8
     clear c8
     have z8:=jC (SB.out _ HK5.out) 8
     simp only [gT,gZ,gS] at z8
     go_upto_region 10 with (fail)
     clear z8 d8 d9
     have z7:=jC (SB.out _ HK5.out) 7
     simp only [gT,gZ,gS] at z7
     have con:=pwhere_any Q5.out (LK.out _ HK5.out).wher OK.out.wher (by omega) OK.out.short.wher
     go_wp2_with fail
     refine con.mono ?_
     rintro e w6 ⟨rfl,k6,q6⟩
     obtain ⟨A6,hA6⟩:∃ A,A=A5 ++ whereP swher:=⟨_,rfl⟩
     have hL6:A6.length<=30000:=by
      rw [hA6,List.length_append]
      have:=where_len (l:=swher) OK.out.short.wher;omega
     rw [<- hA6] at q6
     have EA6:=hid hA6
     have HK6:=hid (HK5.out.trans k6)
     have Q6:=hid q6
     clear con k6 q6 hA6
     clear z7
     by_cases c9:sorder.length=0
     · have HO:=hid (show (if sorder.isEmpty=true then ([]:List ByteArray) else [w_order,w_by] ++ namesP sorder)=[] from if_pos (by rw [List.isEmpty_iff];exact List.eq_nil_of_length_eq_zero c9))
       have d9:decide (0<sorder.length)=false:=decide_eq_false (by omega)
       clear c9
       have z12:=jC (SB.out _ HK6.out) 12
       simp only [gT,gZ,gS] at z12
       go_wp2_with fail
       go_end0
       rw [HPST.out]
       refine ZQ.out _ _ _ ⟨rfl,HK6.out,?_⟩
       have e:A6=acc ++ queryP ⟨sk,stb,snm,scols,snames,srow,ssets,swher,sj,sl,sr,sa,sorder,sm,sn⟩:=by
        rw [EA6.out,EA5.out,EA4.out,EA3.out]
        show _=acc ++ ([w_select] ++ (if sa=1 then [w_countAll] else if 0<sa/\snames.length=1 then [aggS sa ++ w_lp ++ snames.headD noStr ++ w_rp] else namesP snames) ++ [w_from,stb] ++ (if sj=noStr then [] else [w_join,sj,w_on,sl,w_eq,sr]) ++ whereP swher ++ (if sorder.isEmpty=true then [] else [w_order,w_by] ++ namesP sorder))
        rw [HA.out,HJN.out,HO.out]
        simp only [List.append_assoc,List.nil_append,List.cons_append,List.append_nil]
       rw [<- e]
       exact Q6.out
     · have HO:=hid (show (if sorder.isEmpty=true then ([]:List ByteArray) else [w_order,w_by] ++ namesP sorder)=[w_order,w_by] ++ namesP sorder from if_neg (by rw [List.isEmpty_iff];exact fun e=>c9 (by rw [e];rfl)))
       have d9:decide (0<sorder.length)=true:=decide_eq_true (by omega)
       clear c9
       have z12:=jC (SB.out _ HK6.out) 12
       simp only [gT,gZ,gS] at z12
       have con:=add_words (w1:=w6.alloc (.cells (([w_order,w_by]:List ByteArray).map Value.string).toArray 9)) [w_order,w_by] (by simp) Q6.out rfl (by show A6.length+2<=1000000;omega)
       go_wp2_with fail
       refine con.mono ?_
       rintro e w7 ⟨rfl,k7,q7⟩
       obtain ⟨A7,hA7⟩:∃ A,A=A6 ++ ([w_order,w_by]:List ByteArray):=⟨_,rfl⟩
       have hL7:A7.length<=30002:=by
        rw [hA7,List.length_append]
        show A6.length+2<=30002;omega
       rw [<- hA7] at q7
       have EA7:=hid hA7
       have HK7:=hid (HK6.out.trans k7)
       have Q7:=hid q7
       clear con k7 q7 hA7
       clear z12
       have z12:=jC (SB.out _ HK7.out) 12
       simp only [gT,gZ,gS] at z12
       have con:=pnames_any Q7.out (LK.out _ HK7.out).order (by omega) OK.out.short.order
       go_wp2_with fail
       refine con.mono ?_
       rintro e w8 ⟨rfl,k8,q8⟩
       obtain ⟨A8,hA8⟩:∃ A,A=A7 ++ namesP sorder:=⟨_,rfl⟩
       have hL8:A8.length<=50000:=by
        rw [hA8,List.length_append]
        have:=names_len (l:=sorder) OK.out.short.order;omega
       rw [<- hA8] at q8
       have EA8:=hid hA8
       have HK8:=hid (HK7.out.trans k8)
       have Q8:=hid q8
       clear con k8 q8 hA8
       clear z12
       go_wp2_with fail
       go_end0
       rw [HPST.out]
       refine ZQ.out _ _ _ ⟨rfl,HK8.out,?_⟩
       have e:A8=acc ++ queryP ⟨sk,stb,snm,scols,snames,srow,ssets,swher,sj,sl,sr,sa,sorder,sm,sn⟩:=by
        rw [EA8.out,EA7.out,EA6.out,EA5.out,EA4.out,EA3.out]
        show _=acc ++ ([w_select] ++ (if sa=1 then [w_countAll] else if 0<sa/\snames.length=1 then [aggS sa ++ w_lp ++ snames.headD noStr ++ w_rp] else namesP snames) ++ [w_from,stb] ++ (if sj=noStr then [] else [w_join,sj,w_on,sl,w_eq,sr]) ++ whereP swher ++ (if sorder.isEmpty=true then [] else [w_order,w_by] ++ namesP sorder))
        rw [HA.out,HJN.out,HO.out]
        simp only [List.append_assoc,List.nil_append,List.cons_append,List.append_nil]
       rw [<- e]
       exact Q8.out
   · have HJN:=hid (show (if sj=noStr then ([]:List ByteArray) else [w_join,sj,w_on,sl,w_eq,sr])=[w_join,sj,w_on,sl,w_eq,sr] from if_neg c8)
     obtain ⟨d8,d9⟩:=str_some c8
     clear c8
     have z8:=jC (SB.out _ HK5.out) 8
     have z9:=jC (SB.out _ HK5.out) 9
     have z10:=jC (SB.out _ HK5.out) 10
     simp only [gT,gZ,gS] at z8 z9 z10
     have con:=add_words (w1:=w5.alloc (.cells (([w_join,sj,w_on,sl,w_eq,sr]:List ByteArray).map Value.string).toArray 9)) [w_join,sj,w_on,sl,w_eq,sr] (by simp) Q5.out rfl (by show A5.length+6<=1000000;omega)
     go_wp2_with fail
     refine con.mono ?_
     rintro e w6 ⟨rfl,k6,q6⟩
     obtain ⟨A6,hA6⟩:∃ A,A=A5 ++ ([w_join,sj,w_on,sl,w_eq,sr]:List ByteArray):=⟨_,rfl⟩
     have hL6:A6.length<=10006:=by
      rw [hA6,List.length_append]
      show A5.length+6<=10006;omega
     rw [<- hA6] at q6
     have EA6:=hid hA6
     have HK6:=hid (HK5.out.trans k6)
     have Q6:=hid q6
     clear con k6 q6 hA6
     clear z8 z9 z10
     clear d8 d9
     have z7:=jC (SB.out _ HK6.out) 7
     simp only [gT,gZ,gS] at z7
     have con:=pwhere_any Q6.out (LK.out _ HK6.out).wher OK.out.wher (by omega) OK.out.short.wher
     go_wp2_with fail
     refine con.mono ?_
     rintro e w7 ⟨rfl,k7,q7⟩
     obtain ⟨A7,hA7⟩:∃ A,A=A6 ++ whereP swher:=⟨_,rfl⟩
     have hL7:A7.length<=30000:=by
      rw [hA7,List.length_append]
      have:=where_len (l:=swher) OK.out.short.wher;omega
     rw [<- hA7] at q7
     have EA7:=hid hA7
     have HK7:=hid (HK6.out.trans k7)
     have Q7:=hid q7
     clear con k7 q7 hA7
     clear z7
     by_cases c9:sorder.length=0
     · have HO:=hid (show (if sorder.isEmpty=true then ([]:List ByteArray) else [w_order,w_by] ++ namesP sorder)=[] from if_pos (by rw [List.isEmpty_iff];exact List.eq_nil_of_length_eq_zero c9))
       have d9:decide (0<sorder.length)=false:=decide_eq_false (by omega)
       clear c9
       have z12:=jC (SB.out _ HK7.out) 12
       simp only [gT,gZ,gS] at z12
       go_wp2_with fail
       go_end0
       rw [HPST.out]
       refine ZQ.out _ _ _ ⟨rfl,HK7.out,?_⟩
       have e:A7=acc ++ queryP ⟨sk,stb,snm,scols,snames,srow,ssets,swher,sj,sl,sr,sa,sorder,sm,sn⟩:=by
        rw [EA7.out,EA6.out,EA5.out,EA4.out,EA3.out]
        show _=acc ++ ([w_select] ++ (if sa=1 then [w_countAll] else if 0<sa/\snames.length=1 then [aggS sa ++ w_lp ++ snames.headD noStr ++ w_rp] else namesP snames) ++ [w_from,stb] ++ (if sj=noStr then [] else [w_join,sj,w_on,sl,w_eq,sr]) ++ whereP swher ++ (if sorder.isEmpty=true then [] else [w_order,w_by] ++ namesP sorder))
        rw [HA.out,HJN.out,HO.out]
        simp only [List.append_assoc,List.nil_append,List.cons_append,List.append_nil]
       rw [<- e]
       exact Q7.out
     · have HO:=hid (show (if sorder.isEmpty=true then ([]:List ByteArray) else [w_order,w_by] ++ namesP sorder)=[w_order,w_by] ++ namesP sorder from if_neg (by rw [List.isEmpty_iff];exact fun e=>c9 (by rw [e];rfl)))
       have d9:decide (0<sorder.length)=true:=decide_eq_true (by omega)
       clear c9
       have z12:=jC (SB.out _ HK7.out) 12
       simp only [gT,gZ,gS] at z12
       have con:=add_words (w1:=w7.alloc (.cells (([w_order,w_by]:List ByteArray).map Value.string).toArray 9)) [w_order,w_by] (by simp) Q7.out rfl (by show A7.length+2<=1000000;omega)
       go_wp2_with fail
       refine con.mono ?_
       rintro e w8 ⟨rfl,k8,q8⟩
       obtain ⟨A8,hA8⟩:∃ A,A=A7 ++ ([w_order,w_by]:List ByteArray):=⟨_,rfl⟩
       have hL8:A8.length<=30002:=by
        rw [hA8,List.length_append]
        show A7.length+2<=30002;omega
       rw [<- hA8] at q8
       have EA8:=hid hA8
       have HK8:=hid (HK7.out.trans k8)
       have Q8:=hid q8
       clear con k8 q8 hA8
       clear z12
       have z12:=jC (SB.out _ HK8.out) 12
       simp only [gT,gZ,gS] at z12
       have con:=pnames_any Q8.out (LK.out _ HK8.out).order (by omega) OK.out.short.order
       go_wp2_with fail
       refine con.mono ?_
       rintro e w9 ⟨rfl,k9,q9⟩
       obtain ⟨A9,hA9⟩:∃ A,A=A8 ++ namesP sorder:=⟨_,rfl⟩
       have hL9:A9.length<=50000:=by
        rw [hA9,List.length_append]
        have:=names_len (l:=sorder) OK.out.short.order;omega
       rw [<- hA9] at q9
       have EA9:=hid hA9
       have HK9:=hid (HK8.out.trans k9)
       have Q9:=hid q9
       clear con k9 q9 hA9
       clear z12
       go_wp2_with fail
       go_end0
       rw [HPST.out]
       refine ZQ.out _ _ _ ⟨rfl,HK9.out,?_⟩
       have e:A9=acc ++ queryP ⟨sk,stb,snm,scols,snames,srow,ssets,swher,sj,sl,sr,sa,sorder,sm,sn⟩:=by
        rw [EA9.out,EA8.out,EA7.out,EA6.out,EA5.out,EA4.out,EA3.out]
        show _=acc ++ ([w_select] ++ (if sa=1 then [w_countAll] else if 0<sa/\snames.length=1 then [aggS sa ++ w_lp ++ snames.headD noStr ++ w_rp] else namesP snames) ++ [w_from,stb] ++ (if sj=noStr then [] else [w_join,sj,w_on,sl,w_eq,sr]) ++ whereP swher ++ (if sorder.isEmpty=true then [] else [w_order,w_by] ++ namesP sorder))
        rw [HA.out,HJN.out,HO.out]
        simp only [List.append_assoc,List.nil_append,List.cons_append,List.append_nil]
       rw [<- e]
       exact Q9.out
 · by_cases c2:0<sa/\snames.length=1
   · have HA:=hid (show (if sa=1 then [w_countAll] else if 0<sa/\snames.length=1 then [aggS sa ++ w_lp ++ snames.headD noStr ++ w_rp] else namesP snames)=[aggS sa ++ w_lp ++ snames.headD noStr ++ w_rp] by rw [if_neg c1,if_pos c2])
     have d1:(sa == 1)=false:=by simpa using c1
     have d2:decide ((0:Int)<sa)=true:=decide_eq_true c2.1
     have d3:((snames.length:Int) == 1)=true:=by rw [c2.2];rfl
     have d4:(snames.length == 1)=true:=by rw [c2.2];rfl
     have z11:=jC (SB.out _ HK3.out) 11
     have z4:=jC (SB.out _ HK3.out) 4
     simp only [gT,gZ,gS] at z11 z4
     have HPOS:=hid (show 0<snames.length by rw [c2.2];decide)
     obtain ⟨nm,hnm⟩:∃ nm,snames[0]'HPOS.out=nm:=⟨_,rfl⟩
     have HH:=hid (show snames.headD noStr=nm by
      rw [<- hnm]
      cases snames with
      | nil=>exact absurd c2.2 (by simp)
      | cons x r=>rfl)
     have hsz:nm.size<=4294967000:=OK.out.names nm (by rw [<- hnm];exact List.getElem_mem _)
     obtain ⟨AW,hAW⟩:∃ A,A=aggS sa:=⟨_,rfl⟩
     have HAW:=hid hAW
     have haz:AW.size<=10:=by rw [hAW];exact agg_size sa
     obtain ⟨m,hm⟩:∃ m:Nat,sa=(m:Int)+1:=⟨(sa - 1).toNat,by omega⟩
     have HM:=hid hm
     have hmb:m<=9223372036854775806:=by
      have h9:sa<=9223372036854775807:=OK.out.agg
      omega
     have hsl:SlV strF (fun k=>k<b) w3 (.slice na snames.length nc) snames:=(LK.out _ HK3.out).names
     obtain ⟨_,_,_,hrow⟩:=hsl.row
     obtain ⟨g,o,hga,_,hgl⟩:=hrow.addr (by intro e;exact absurd HPOS.out (by rw [e];decide))
     subst hga
     have cn:=hrow.flat 0 HPOS.out 0 (by decide)
     simp only [strEnc,List.getElem?_cons_zero,Nat.mul_one,Nat.add_zero,Nat.zero_mul] at cn
     rw [hnm] at cn
     have CN:=hid cn
     have HGL:=hid hgl
     go_upto_region 6 with (fail)
     have hpos:=HPOS.out
     have HEF:=hid (enters_of Tryz.func66 (by kernel_rfl) rfl)
     have HEN:=hid (enters_of Tryz.func68 (by kernel_rfl) rfl)
     have SB3:=hid (SB.out _ HK3.out)
     rw [hm] at SB3
     clear z11 z4 d1 d2 d3 d4 c1 c2 hnm hAW hm hsl hrow cn hgl
     have HA2:=hid (HA.out.trans (show [aggS sa ++ w_lp ++ snames.headD noStr ++ w_rp]=[AW ++ w_lp ++ nm ++ w_rp] by rw [HH.out,HAW.out]))
     clear HA
     have HA:=HA2
     clear HA2
     by_cases h4:m<4
     · have hmin:min (m:Int) 4=((m:Int)):=by omega
       have HW:=hid (show ((aggL5.map Value.string).toArray)[m]? = some (.string AW) by rw [HAW.out,HM.out];exact agg_word h4)
       clear h4
       refine wp_region_loose2 [([0,2,3,4,5,9,10,11,12],1),([6,7,8,13,14],15),([],16)] (Below w3.heap.size w3) (Below w3.heap.size w3) (by kernel_rfl) (by kernel_rfl) (by kernel_rfl) (fun z1 z2 h b=>h.trans (b.mono h.size)) (Below.drew b0R) ?_
       apply wpSegs_call (Below w3.heap.size w3) (BSl w3 aggL5) (fun _ h=>h) (fun _ h=>h)
       case hq =>
        intro z1 hz1
        have ne:Nonempty (Wld (Below z1.heap.size z1)):=⟨⟨z1,Below.refl _ _⟩⟩
        have B1:=fun x:Wld (Below z1.heap.size z1)=>hz1.trans (x.good.mono hz1.size)
        have x11:=fun x:Wld (Below z1.heap.size z1)=>jC (((B1 x).block _ (jB SB3.out)).trans SB3.out) 11
        have x4:=fun x:Wld (Below z1.heap.size z1)=>jC (((B1 x).block _ (jB SB3.out)).trans SB3.out) 4
        have x0:=fun x:Wld (Below z1.heap.size z1)=>((B1 x).cell (p:=⟨g,o,none⟩) HGL.out).trans CN.out
        simp only [gT,gZ,gS] at x11 x4
        simp only [pickOps,List.getElem?_cons_zero,List.getElem?_cons_succ]
        apply quiet_hide
        intro KE hKE
        clear B1
        repeat (go_big_quiet_step (fail))
        refine wpQuiet_nil ?_
        exact hKE _ rfl
       case ho=>rfl
       case hw=>kernel_rfl
       case hD=>exact fun u z1 z2 h hb=>h.below hb
       case hDJ=>exact fun _ u w' h=>h.after
       case hlo =>
        intro z1 hz1
        refine loose_call (args:=#[.string ⟨#[99,111,117,110,116,32,115,117,109,32,109,105,110,32,109,97,120,32,63]⟩]) (run_call_func rfl (by kernel_rfl) HEF.out) ((fields_any (s:=⟨#[99,111,117,110,116,32,115,117,109,32,109,105,110,32,109,97,120,32,63]⟩) (L:=aggL5) (by decide +kernel) (by decide +kernel) (by decide +kernel) (Q3.out.below hz1).env).mono ?_)
        rintro e z2 ⟨rfl,rfl⟩
        exact ⟨_,rfl,bsl_new hz1⟩
       case hrest =>
        rintro u z1 ⟨gw,rfl,-⟩
        rw [show aggL5.length=5 from rfl]
        simp only [Act.put,List.setIfInBounds_toArray,List.set_cons_succ,List.set_cons_zero]
        apply wpSegs_cons (BSl w3 aggL5 (.slice (some ⟨gw,0,none⟩) 5 5)) (fun u w'=>BSl w3 [AW ++ w_lp ++ nm ++ w_rp] u w'/\BSl w3 aggL5 (.slice (some ⟨gw,0,none⟩) 5 5) w') (fun _ h=>h.after) (fun _ h=>h)
        case hq =>
         intro z1 hz1
         have ne:Nonempty (Wld (Below z1.heap.size z1)):=⟨⟨z1,Below.refl _ _⟩⟩
         have x3:∀ x:Wld (Below z1.heap.size z1),x.val.cell? ⟨gw,m,none⟩=some (.string AW):=fun x=>by
          obtain ⟨g',hg',_,hb',_⟩:=hz1
          cases hg'
          exact (jC ((x.good.block _ (jB hb')).trans hb') m).trans HW.out
         simp only [pickOps,List.getElem?_cons_zero,List.getElem?_cons_succ]
         apply quiet_hide
         intro KE hKE
         repeat (go_big_quiet_step (fail))
         refine wpQuiet_nil ?_
         exact hKE _ rfl
        case ho=>rfl
        case hop=>rfl
        case hw=>kernel_rfl
        case hD=>exact fun u z1 z2 h hb=>⟨h.1.below hb,h.2.below hb⟩
        case hDJ=>exact fun _ u w' h=>h.2
        case hlo =>
         intro wa ba
         go_wp2_with fail
         exact ⟨bsl_new ba.after,ba.below ((b0R).alloc (jR _) _)⟩
        case hrest =>
         rintro u z1 ⟨⟨g9,rfl,-⟩,-⟩
         simp only [Act.put,List.setIfInBounds_toArray,List.set_cons_succ,List.set_cons_zero]
         apply wpSegs_call (fun w'=>BSl w3 [AW ++ w_lp ++ nm ++ w_rp] (.slice (some ⟨g9,0,none⟩) 1 1) w'/\BSl w3 aggL5 (.slice (some ⟨gw,0,none⟩) 5 5) w') (fun _ w'=>Kept Y w3 w'/\QAt Y b (A3 ++ [AW ++ w_lp ++ nm ++ w_rp]) w') (fun _ h=>h.2) (fun _ h=>h)
         case hq=>exact fun _ _=>rfl
         case ho=>rfl
         case hw=>kernel_rfl
         case hD=>exact fun u z1 z2 h hb=>⟨h.1.trans (Below.kept hb _),h.2.below hb⟩
         case hDJ=>exact fun h=>absurd rfl h
         case hlo =>
          intro z1 hz1
          refine loose_call (args:=#[.pointer (some ⟨b,0,none⟩),.slice (some ⟨g9,0,none⟩) 1 1]) (run_call_func rfl (by kernel_rfl) HEN.out) ((add_at Q3.out hz1.1 (by simp) (by show A3.length+1<=1000000;omega)).mono ?_)
          rintro e z2 ⟨rfl,k2,q2⟩
          exact ⟨_,rfl,k2,q2⟩
         case hrest =>
          rintro _ z1 -
          simp only [Act.put]
          refine wpSegs_nil fun w4 h9=>?_
          obtain ⟨A4,hA4⟩:∃ A,A=A3 ++ ([AW ++ w_lp ++ nm ++ w_rp]:List ByteArray):=⟨_,rfl⟩
          have hL4:A4.length<=1002:=by
           rw [hA4,List.length_append]
           show A3.length+1<=1002
           omega
          rw [<- hA4] at h9
          have EA4:=hid hA4
          have HK4:=hid (HK3.out.trans h9.1)
          have Q4:=hid h9.2
          clear h9 hA4
          simp only [List.setIfInBounds_toArray,List.set_cons_succ,List.set_cons_zero]
          have z1:=jC (SB.out _ HK4.out) 1
          simp only [gT,gZ,gS] at z1
          have con:=add_words (w1:=w4.alloc (.cells (([w_from,stb]:List ByteArray).map Value.string).toArray 9)) [w_from,stb] (by simp) Q4.out rfl (by show A4.length+2<=1000000;omega)
          go_wp2_with fail
          refine con.mono ?_
          rintro e w5 ⟨rfl,k5,q5⟩
          obtain ⟨A5,hA5⟩:∃ A,A=A4 ++ ([w_from,stb]:List ByteArray):=⟨_,rfl⟩
          have hL5:A5.length<=10000:=by
           rw [hA5,List.length_append]
           show A4.length+2<=10000;omega
          rw [<- hA5] at q5
          have EA5:=hid hA5
          have HK5:=hid (HK4.out.trans k5)
          have Q5:=hid q5
          clear con k5 q5 hA5
          clear z1
          by_cases c8:sj=noStr
          · have HJN:=hid (show (if sj=noStr then ([]:List ByteArray) else [w_join,sj,w_on,sl,w_eq,sr])=[] from if_pos c8)
            obtain ⟨d8,d9⟩:=str_none c8
            clear c8
            have z8:=jC (SB.out _ HK5.out) 8
            simp only [gT,gZ,gS] at z8
            go_upto_region 10 with (fail)
            clear z8 d8 d9
            have z7:=jC (SB.out _ HK5.out) 7
            simp only [gT,gZ,gS] at z7
            have con:=pwhere_any Q5.out (LK.out _ HK5.out).wher OK.out.wher (by omega) OK.out.short.wher
            go_wp2_with fail
            refine con.mono ?_
            rintro e w6 ⟨rfl,k6,q6⟩
            obtain ⟨A6,hA6⟩:∃ A,A=A5 ++ whereP swher:=⟨_,rfl⟩
            have hL6:A6.length<=30000:=by
             rw [hA6,List.length_append]
             have:=where_len (l:=swher) OK.out.short.wher;omega
            rw [<- hA6] at q6
            have EA6:=hid hA6
            have HK6:=hid (HK5.out.trans k6)
            have Q6:=hid q6
            clear con k6 q6 hA6
            clear z7
            by_cases c9:sorder.length=0
            · have HO:=hid (show (if sorder.isEmpty=true then ([]:List ByteArray) else [w_order,w_by] ++ namesP sorder)=[] from if_pos (by rw [List.isEmpty_iff];exact List.eq_nil_of_length_eq_zero c9))
              have d9:decide (0<sorder.length)=false:=decide_eq_false (by omega)
              clear c9
              have z12:=jC (SB.out _ HK6.out) 12
              simp only [gT,gZ,gS] at z12
              go_wp2_with fail
              go_end0
              rw [HPST.out]
              refine ZQ.out _ _ _ ⟨rfl,HK6.out,?_⟩
              have e:A6=acc ++ queryP ⟨sk,stb,snm,scols,snames,srow,ssets,swher,sj,sl,sr,sa,sorder,sm,sn⟩:=by
               rw [EA6.out,EA5.out,EA4.out,EA3.out]
               show _=acc ++ ([w_select] ++ (if sa=1 then [w_countAll] else if 0<sa/\snames.length=1 then [aggS sa ++ w_lp ++ snames.headD noStr ++ w_rp] else namesP snames) ++ [w_from,stb] ++ (if sj=noStr then [] else [w_join,sj,w_on,sl,w_eq,sr]) ++ whereP swher ++ (if sorder.isEmpty=true then [] else [w_order,w_by] ++ namesP sorder))
               rw [HA.out,HJN.out,HO.out]
               simp only [List.append_assoc,List.nil_append,List.cons_append,List.append_nil]
              rw [<- e]
              exact Q6.out
            · have HO:=hid (show (if sorder.isEmpty=true then ([]:List ByteArray) else [w_order,w_by] ++ namesP sorder)=[w_order,w_by] ++ namesP sorder from if_neg (by rw [List.isEmpty_iff];exact fun e=>c9 (by rw [e];rfl)))
              have d9:decide (0<sorder.length)=true:=decide_eq_true (by omega)
              clear c9
              have z12:=jC (SB.out _ HK6.out) 12
              simp only [gT,gZ,gS] at z12
              have con:=add_words (w1:=w6.alloc (.cells (([w_order,w_by]:List ByteArray).map Value.string).toArray 9)) [w_order,w_by] (by simp) Q6.out rfl (by show A6.length+2<=1000000;omega)
              go_wp2_with fail
              refine con.mono ?_
              rintro e w7 ⟨rfl,k7,q7⟩
              obtain ⟨A7,hA7⟩:∃ A,A=A6 ++ ([w_order,w_by]:List ByteArray):=⟨_,rfl⟩
              have hL7:A7.length<=30002:=by
               rw [hA7,List.length_append]
               show A6.length+2<=30002;omega
              rw [<- hA7] at q7
              have EA7:=hid hA7
              have HK7:=hid (HK6.out.trans k7)
              have Q7:=hid q7
              clear con k7 q7 hA7
              clear z12
              have z12:=jC (SB.out _ HK7.out) 12
              simp only [gT,gZ,gS] at z12
              have con:=pnames_any Q7.out (LK.out _ HK7.out).order (by omega) OK.out.short.order
              go_wp2_with fail
              refine con.mono ?_
              rintro e w8 ⟨rfl,k8,q8⟩
              obtain ⟨A8,hA8⟩:∃ A,A=A7 ++ namesP sorder:=⟨_,rfl⟩
              have hL8:A8.length<=50000:=by
               rw [hA8,List.length_append]
               have:=names_len (l:=sorder) OK.out.short.order;omega
              rw [<- hA8] at q8
              have EA8:=hid hA8
              have HK8:=hid (HK7.out.trans k8)
              have Q8:=hid q8
              clear con k8 q8 hA8
              clear z12
              go_wp2_with fail
              go_end0
              rw [HPST.out]
              refine ZQ.out _ _ _ ⟨rfl,HK8.out,?_⟩
              have e:A8=acc ++ queryP ⟨sk,stb,snm,scols,snames,srow,ssets,swher,sj,sl,sr,sa,sorder,sm,sn⟩:=by
               rw [EA8.out,EA7.out,EA6.out,EA5.out,EA4.out,EA3.out]
               show _=acc ++ ([w_select] ++ (if sa=1 then [w_countAll] else if 0<sa/\snames.length=1 then [aggS sa ++ w_lp ++ snames.headD noStr ++ w_rp] else namesP snames) ++ [w_from,stb] ++ (if sj=noStr then [] else [w_join,sj,w_on,sl,w_eq,sr]) ++ whereP swher ++ (if sorder.isEmpty=true then [] else [w_order,w_by] ++ namesP sorder))
               rw [HA.out,HJN.out,HO.out]
               simp only [List.append_assoc,List.nil_append,List.cons_append,List.append_nil]
              rw [<- e]
              exact Q8.out
          · have HJN:=hid (show (if sj=noStr then ([]:List ByteArray) else [w_join,sj,w_on,sl,w_eq,sr])=[w_join,sj,w_on,sl,w_eq,sr] from if_neg c8)
            obtain ⟨d8,d9⟩:=str_some c8
            clear c8
            have z8:=jC (SB.out _ HK5.out) 8
            have z9:=jC (SB.out _ HK5.out) 9
            have z10:=jC (SB.out _ HK5.out) 10
            simp only [gT,gZ,gS] at z8 z9 z10
            have con:=add_words (w1:=w5.alloc (.cells (([w_join,sj,w_on,sl,w_eq,sr]:List ByteArray).map Value.string).toArray 9)) [w_join,sj,w_on,sl,w_eq,sr] (by simp) Q5.out rfl (by show A5.length+6<=1000000;omega)
            go_wp2_with fail
            refine con.mono ?_
            rintro e w6 ⟨rfl,k6,q6⟩
            obtain ⟨A6,hA6⟩:∃ A,A=A5 ++ ([w_join,sj,w_on,sl,w_eq,sr]:List ByteArray):=⟨_,rfl⟩
            have hL6:A6.length<=10006:=by
             rw [hA6,List.length_append]
             show A5.length+6<=10006;omega
            rw [<- hA6] at q6
            have EA6:=hid hA6
            have HK6:=hid (HK5.out.trans k6)
            have Q6:=hid q6
            clear con k6 q6 hA6
            clear z8 z9 z10
            clear d8 d9
            have z7:=jC (SB.out _ HK6.out) 7
            simp only [gT,gZ,gS] at z7
            have con:=pwhere_any Q6.out (LK.out _ HK6.out).wher OK.out.wher (by omega) OK.out.short.wher
            go_wp2_with fail
            refine con.mono ?_
            rintro e w7 ⟨rfl,k7,q7⟩
            obtain ⟨A7,hA7⟩:∃ A,A=A6 ++ whereP swher:=⟨_,rfl⟩
            have hL7:A7.length<=30000:=by
             rw [hA7,List.length_append]
             have:=where_len (l:=swher) OK.out.short.wher;omega
            rw [<- hA7] at q7
            have EA7:=hid hA7
            have HK7:=hid (HK6.out.trans k7)
            have Q7:=hid q7
            clear con k7 q7 hA7
            clear z7
            by_cases c9:sorder.length=0
            · have HO:=hid (show (if sorder.isEmpty=true then ([]:List ByteArray) else [w_order,w_by] ++ namesP sorder)=[] from if_pos (by rw [List.isEmpty_iff];exact List.eq_nil_of_length_eq_zero c9))
              have d9:decide (0<sorder.length)=false:=decide_eq_false (by omega)
              clear c9
              have z12:=jC (SB.out _ HK7.out) 12
              simp only [gT,gZ,gS] at z12
              go_wp2_with fail
              go_end0
              rw [HPST.out]
              refine ZQ.out _ _ _ ⟨rfl,HK7.out,?_⟩
              have e:A7=acc ++ queryP ⟨sk,stb,snm,scols,snames,srow,ssets,swher,sj,sl,sr,sa,sorder,sm,sn⟩:=by
               rw [EA7.out,EA6.out,EA5.out,EA4.out,EA3.out]
               show _=acc ++ ([w_select] ++ (if sa=1 then [w_countAll] else if 0<sa/\snames.length=1 then [aggS sa ++ w_lp ++ snames.headD noStr ++ w_rp] else namesP snames) ++ [w_from,stb] ++ (if sj=noStr then [] else [w_join,sj,w_on,sl,w_eq,sr]) ++ whereP swher ++ (if sorder.isEmpty=true then [] else [w_order,w_by] ++ namesP sorder))
               rw [HA.out,HJN.out,HO.out]
               simp only [List.append_assoc,List.nil_append,List.cons_append,List.append_nil]
              rw [<- e]
              exact Q7.out
            · have HO:=hid (show (if sorder.isEmpty=true then ([]:List ByteArray) else [w_order,w_by] ++ namesP sorder)=[w_order,w_by] ++ namesP sorder from if_neg (by rw [List.isEmpty_iff];exact fun e=>c9 (by rw [e];rfl)))
              have d9:decide (0<sorder.length)=true:=decide_eq_true (by omega)
              clear c9
              have z12:=jC (SB.out _ HK7.out) 12
              simp only [gT,gZ,gS] at z12
              have con:=add_words (w1:=w7.alloc (.cells (([w_order,w_by]:List ByteArray).map Value.string).toArray 9)) [w_order,w_by] (by simp) Q7.out rfl (by show A7.length+2<=1000000;omega)
              go_wp2_with fail
              refine con.mono ?_
              rintro e w8 ⟨rfl,k8,q8⟩
              obtain ⟨A8,hA8⟩:∃ A,A=A7 ++ ([w_order,w_by]:List ByteArray):=⟨_,rfl⟩
              have hL8:A8.length<=30002:=by
               rw [hA8,List.length_append]
               show A7.length+2<=30002;omega
              rw [<- hA8] at q8
              have EA8:=hid hA8
              have HK8:=hid (HK7.out.trans k8)
              have Q8:=hid q8
              clear con k8 q8 hA8
              clear z12
              have z12:=jC (SB.out _ HK8.out) 12
              simp only [gT,gZ,gS] at z12
              have con:=pnames_any Q8.out (LK.out _ HK8.out).order (by omega) OK.out.short.order
              go_wp2_with fail
              refine con.mono ?_
              rintro e w9 ⟨rfl,k9,q9⟩
              obtain ⟨A9,hA9⟩:∃ A,A=A8 ++ namesP sorder:=⟨_,rfl⟩
              have hL9:A9.length<=50000:=by
               rw [hA9,List.length_append]
               have:=names_len (l:=sorder) OK.out.short.order;omega
              rw [<- hA9] at q9
              have EA9:=hid hA9
              have HK9:=hid (HK8.out.trans k9)
              have Q9:=hid q9
              clear con k9 q9 hA9
              clear z12
              go_wp2_with fail
              go_end0
              rw [HPST.out]
              refine ZQ.out _ _ _ ⟨rfl,HK9.out,?_⟩
              have e:A9=acc ++ queryP ⟨sk,stb,snm,scols,snames,srow,ssets,swher,sj,sl,sr,sa,sorder,sm,sn⟩:=by
               rw [EA9.out,EA8.out,EA7.out,EA6.out,EA5.out,EA4.out,EA3.out]
               show _=acc ++ ([w_select] ++ (if sa=1 then [w_countAll] else if 0<sa/\snames.length=1 then [aggS sa ++ w_lp ++ snames.headD noStr ++ w_rp] else namesP snames) ++ [w_from,stb] ++ (if sj=noStr then [] else [w_join,sj,w_on,sl,w_eq,sr]) ++ whereP swher ++ (if sorder.isEmpty=true then [] else [w_order,w_by] ++ namesP sorder))
               rw [HA.out,HJN.out,HO.out]
               simp only [List.append_assoc,List.nil_append,List.cons_append,List.append_nil]
              rw [<- e]
              exact Q9.out
     · have hmin:min (m:Int) 4=(4):=by omega
       have HW:=hid (show ((aggL5.map Value.string).toArray)[4]? = some (.string AW) by rw [HAW.out,HM.out];exact agg_last h4)
       clear h4
       refine wp_region_loose2 [([0,2,3,4,5,9,10,11,12],1),([6,7,8,13,14],15),([],16)] (Below w3.heap.size w3) (Below w3.heap.size w3) (by kernel_rfl) (by kernel_rfl) (by kernel_rfl) (fun z1 z2 h b=>h.trans (b.mono h.size)) (Below.drew b0R) ?_
       apply wpSegs_call (Below w3.heap.size w3) (BSl w3 aggL5) (fun _ h=>h) (fun _ h=>h)
       case hq =>
        intro z1 hz1
        have ne:Nonempty (Wld (Below z1.heap.size z1)):=⟨⟨z1,Below.refl _ _⟩⟩
        have B1:=fun x:Wld (Below z1.heap.size z1)=>hz1.trans (x.good.mono hz1.size)
        have x11:=fun x:Wld (Below z1.heap.size z1)=>jC (((B1 x).block _ (jB SB3.out)).trans SB3.out) 11
        have x4:=fun x:Wld (Below z1.heap.size z1)=>jC (((B1 x).block _ (jB SB3.out)).trans SB3.out) 4
        have x0:=fun x:Wld (Below z1.heap.size z1)=>((B1 x).cell (p:=⟨g,o,none⟩) HGL.out).trans CN.out
        simp only [gT,gZ,gS] at x11 x4
        simp only [pickOps,List.getElem?_cons_zero,List.getElem?_cons_succ]
        apply quiet_hide
        intro KE hKE
        clear B1
        repeat (go_big_quiet_step (fail))
        refine wpQuiet_nil ?_
        exact hKE _ rfl
       case ho=>rfl
       case hw=>kernel_rfl
       case hD=>exact fun u z1 z2 h hb=>h.below hb
       case hDJ=>exact fun _ u w' h=>h.after
       case hlo =>
        intro z1 hz1
        refine loose_call (args:=#[.string ⟨#[99,111,117,110,116,32,115,117,109,32,109,105,110,32,109,97,120,32,63]⟩]) (run_call_func rfl (by kernel_rfl) HEF.out) ((fields_any (s:=⟨#[99,111,117,110,116,32,115,117,109,32,109,105,110,32,109,97,120,32,63]⟩) (L:=aggL5) (by decide +kernel) (by decide +kernel) (by decide +kernel) (Q3.out.below hz1).env).mono ?_)
        rintro e z2 ⟨rfl,rfl⟩
        exact ⟨_,rfl,bsl_new hz1⟩
       case hrest =>
        rintro u z1 ⟨gw,rfl,-⟩
        rw [show aggL5.length=5 from rfl]
        simp only [Act.put,List.setIfInBounds_toArray,List.set_cons_succ,List.set_cons_zero]
        apply wpSegs_cons (BSl w3 aggL5 (.slice (some ⟨gw,0,none⟩) 5 5)) (fun u w'=>BSl w3 [AW ++ w_lp ++ nm ++ w_rp] u w'/\BSl w3 aggL5 (.slice (some ⟨gw,0,none⟩) 5 5) w') (fun _ h=>h.after) (fun _ h=>h)
        case hq =>
         intro z1 hz1
         have ne:Nonempty (Wld (Below z1.heap.size z1)):=⟨⟨z1,Below.refl _ _⟩⟩
         have x3:∀ x:Wld (Below z1.heap.size z1),x.val.cell? ⟨gw,4,none⟩=some (.string AW):=fun x=>by
          obtain ⟨g',hg',_,hb',_⟩:=hz1
          cases hg'
          exact (jC ((x.good.block _ (jB hb')).trans hb') 4).trans HW.out
         simp only [pickOps,List.getElem?_cons_zero,List.getElem?_cons_succ]
         apply quiet_hide
         intro KE hKE
         repeat (go_big_quiet_step (fail))
         refine wpQuiet_nil ?_
         exact hKE _ rfl
        case ho=>rfl
        case hop=>rfl
        case hw=>kernel_rfl
        case hD=>exact fun u z1 z2 h hb=>⟨h.1.below hb,h.2.below hb⟩
        case hDJ=>exact fun _ u w' h=>h.2
        case hlo =>
         intro wa ba
         go_wp2_with fail
         exact ⟨bsl_new ba.after,ba.below ((b0R).alloc (jR _) _)⟩
        case hrest =>
         rintro u z1 ⟨⟨g9,rfl,-⟩,-⟩
         simp only [Act.put,List.setIfInBounds_toArray,List.set_cons_succ,List.set_cons_zero]
         apply wpSegs_call (fun w'=>BSl w3 [AW ++ w_lp ++ nm ++ w_rp] (.slice (some ⟨g9,0,none⟩) 1 1) w'/\BSl w3 aggL5 (.slice (some ⟨gw,0,none⟩) 5 5) w') (fun _ w'=>Kept Y w3 w'/\QAt Y b (A3 ++ [AW ++ w_lp ++ nm ++ w_rp]) w') (fun _ h=>h.2) (fun _ h=>h)
         case hq=>exact fun _ _=>rfl
         case ho=>rfl
         case hw=>kernel_rfl
         case hD=>exact fun u z1 z2 h hb=>⟨h.1.trans (Below.kept hb _),h.2.below hb⟩
         case hDJ=>exact fun h=>absurd rfl h
         case hlo =>
          intro z1 hz1
          refine loose_call (args:=#[.pointer (some ⟨b,0,none⟩),.slice (some ⟨g9,0,none⟩) 1 1]) (run_call_func rfl (by kernel_rfl) HEN.out) ((add_at Q3.out hz1.1 (by simp) (by show A3.length+1<=1000000;omega)).mono ?_)
          rintro e z2 ⟨rfl,k2,q2⟩
          exact ⟨_,rfl,k2,q2⟩
         case hrest =>
          rintro _ z1 -
          simp only [Act.put]
          refine wpSegs_nil fun w4 h9=>?_
          obtain ⟨A4,hA4⟩:∃ A,A=A3 ++ ([AW ++ w_lp ++ nm ++ w_rp]:List ByteArray):=⟨_,rfl⟩
          have hL4:A4.length<=1002:=by
           rw [hA4,List.length_append]
           show A3.length+1<=1002
           omega
          rw [<- hA4] at h9
          have EA4:=hid hA4
          have HK4:=hid (HK3.out.trans h9.1)
          have Q4:=hid h9.2
          clear h9 hA4
          simp only [List.setIfInBounds_toArray,List.set_cons_succ,List.set_cons_zero]
          have z1:=jC (SB.out _ HK4.out) 1
          simp only [gT,gZ,gS] at z1
          have con:=add_words (w1:=w4.alloc (.cells (([w_from,stb]:List ByteArray).map Value.string).toArray 9)) [w_from,stb] (by simp) Q4.out rfl (by show A4.length+2<=1000000;omega)
          go_wp2_with fail
          refine con.mono ?_
          rintro e w5 ⟨rfl,k5,q5⟩
          obtain ⟨A5,hA5⟩:∃ A,A=A4 ++ ([w_from,stb]:List ByteArray):=⟨_,rfl⟩
          have hL5:A5.length<=10000:=by
           rw [hA5,List.length_append]
           show A4.length+2<=10000;omega
          rw [<- hA5] at q5
          have EA5:=hid hA5
          have HK5:=hid (HK4.out.trans k5)
          have Q5:=hid q5
          clear con k5 q5 hA5
          clear z1
          by_cases c8:sj=noStr
          · have HJN:=hid (show (if sj=noStr then ([]:List ByteArray) else [w_join,sj,w_on,sl,w_eq,sr])=[] from if_pos c8)
            obtain ⟨d8,d9⟩:=str_none c8
            clear c8
            have z8:=jC (SB.out _ HK5.out) 8
            simp only [gT,gZ,gS] at z8
            go_upto_region 10 with (fail)
            clear z8 d8 d9
            have z7:=jC (SB.out _ HK5.out) 7
            simp only [gT,gZ,gS] at z7
            have con:=pwhere_any Q5.out (LK.out _ HK5.out).wher OK.out.wher (by omega) OK.out.short.wher
            go_wp2_with fail
            refine con.mono ?_
            rintro e w6 ⟨rfl,k6,q6⟩
            obtain ⟨A6,hA6⟩:∃ A,A=A5 ++ whereP swher:=⟨_,rfl⟩
            have hL6:A6.length<=30000:=by
             rw [hA6,List.length_append]
             have:=where_len (l:=swher) OK.out.short.wher;omega
            rw [<- hA6] at q6
            have EA6:=hid hA6
            have HK6:=hid (HK5.out.trans k6)
            have Q6:=hid q6
            clear con k6 q6 hA6
            clear z7
            by_cases c9:sorder.length=0
            · have HO:=hid (show (if sorder.isEmpty=true then ([]:List ByteArray) else [w_order,w_by] ++ namesP sorder)=[] from if_pos (by rw [List.isEmpty_iff];exact List.eq_nil_of_length_eq_zero c9))
              have d9:decide (0<sorder.length)=false:=decide_eq_false (by omega)
              clear c9
              have z12:=jC (SB.out _ HK6.out) 12
              simp only [gT,gZ,gS] at z12
              go_wp2_with fail
              go_end0
              rw [HPST.out]
              refine ZQ.out _ _ _ ⟨rfl,HK6.out,?_⟩
              have e:A6=acc ++ queryP ⟨sk,stb,snm,scols,snames,srow,ssets,swher,sj,sl,sr,sa,sorder,sm,sn⟩:=by
               rw [EA6.out,EA5.out,EA4.out,EA3.out]
               show _=acc ++ ([w_select] ++ (if sa=1 then [w_countAll] else if 0<sa/\snames.length=1 then [aggS sa ++ w_lp ++ snames.headD noStr ++ w_rp] else namesP snames) ++ [w_from,stb] ++ (if sj=noStr then [] else [w_join,sj,w_on,sl,w_eq,sr]) ++ whereP swher ++ (if sorder.isEmpty=true then [] else [w_order,w_by] ++ namesP sorder))
               rw [HA.out,HJN.out,HO.out]
               simp only [List.append_assoc,List.nil_append,List.cons_append,List.append_nil]
              rw [<- e]
              exact Q6.out
            · have HO:=hid (show (if sorder.isEmpty=true then ([]:List ByteArray) else [w_order,w_by] ++ namesP sorder)=[w_order,w_by] ++ namesP sorder from if_neg (by rw [List.isEmpty_iff];exact fun e=>c9 (by rw [e];rfl)))
              have d9:decide (0<sorder.length)=true:=decide_eq_true (by omega)
              clear c9
              have z12:=jC (SB.out _ HK6.out) 12
              simp only [gT,gZ,gS] at z12
              have con:=add_words (w1:=w6.alloc (.cells (([w_order,w_by]:List ByteArray).map Value.string).toArray 9)) [w_order,w_by] (by simp) Q6.out rfl (by show A6.length+2<=1000000;omega)
              go_wp2_with fail
              refine con.mono ?_
              rintro e w7 ⟨rfl,k7,q7⟩
              obtain ⟨A7,hA7⟩:∃ A,A=A6 ++ ([w_order,w_by]:List ByteArray):=⟨_,rfl⟩
              have hL7:A7.length<=30002:=by
               rw [hA7,List.length_append]
               show A6.length+2<=30002;omega
              rw [<- hA7] at q7
              have EA7:=hid hA7
              have HK7:=hid (HK6.out.trans k7)
              have Q7:=hid q7
              clear con k7 q7 hA7
              clear z12
              have z12:=jC (SB.out _ HK7.out) 12
              simp only [gT,gZ,gS] at z12
              have con:=pnames_any Q7.out (LK.out _ HK7.out).order (by omega) OK.out.short.order
              go_wp2_with fail
              refine con.mono ?_
              rintro e w8 ⟨rfl,k8,q8⟩
              obtain ⟨A8,hA8⟩:∃ A,A=A7 ++ namesP sorder:=⟨_,rfl⟩
              have hL8:A8.length<=50000:=by
               rw [hA8,List.length_append]
               have:=names_len (l:=sorder) OK.out.short.order;omega
              rw [<- hA8] at q8
              have EA8:=hid hA8
              have HK8:=hid (HK7.out.trans k8)
              have Q8:=hid q8
              clear con k8 q8 hA8
              clear z12
              go_wp2_with fail
              go_end0
              rw [HPST.out]
              refine ZQ.out _ _ _ ⟨rfl,HK8.out,?_⟩
              have e:A8=acc ++ queryP ⟨sk,stb,snm,scols,snames,srow,ssets,swher,sj,sl,sr,sa,sorder,sm,sn⟩:=by
               rw [EA8.out,EA7.out,EA6.out,EA5.out,EA4.out,EA3.out]
               show _=acc ++ ([w_select] ++ (if sa=1 then [w_countAll] else if 0<sa/\snames.length=1 then [aggS sa ++ w_lp ++ snames.headD noStr ++ w_rp] else namesP snames) ++ [w_from,stb] ++ (if sj=noStr then [] else [w_join,sj,w_on,sl,w_eq,sr]) ++ whereP swher ++ (if sorder.isEmpty=true then [] else [w_order,w_by] ++ namesP sorder))
               rw [HA.out,HJN.out,HO.out]
               simp only [List.append_assoc,List.nil_append,List.cons_append,List.append_nil]
              rw [<- e]
              exact Q8.out
          · have HJN:=hid (show (if sj=noStr then ([]:List ByteArray) else [w_join,sj,w_on,sl,w_eq,sr])=[w_join,sj,w_on,sl,w_eq,sr] from if_neg c8)
            obtain ⟨d8,d9⟩:=str_some c8
            clear c8
            have z8:=jC (SB.out _ HK5.out) 8
            have z9:=jC (SB.out _ HK5.out) 9
            have z10:=jC (SB.out _ HK5.out) 10
            simp only [gT,gZ,gS] at z8 z9 z10
            have con:=add_words (w1:=w5.alloc (.cells (([w_join,sj,w_on,sl,w_eq,sr]:List ByteArray).map Value.string).toArray 9)) [w_join,sj,w_on,sl,w_eq,sr] (by simp) Q5.out rfl (by show A5.length+6<=1000000;omega)
            go_wp2_with fail
            refine con.mono ?_
            rintro e w6 ⟨rfl,k6,q6⟩
            obtain ⟨A6,hA6⟩:∃ A,A=A5 ++ ([w_join,sj,w_on,sl,w_eq,sr]:List ByteArray):=⟨_,rfl⟩
            have hL6:A6.length<=10006:=by
             rw [hA6,List.length_append]
             show A5.length+6<=10006;omega
            rw [<- hA6] at q6
            have EA6:=hid hA6
            have HK6:=hid (HK5.out.trans k6)
            have Q6:=hid q6
            clear con k6 q6 hA6
            clear z8 z9 z10
            clear d8 d9
            have z7:=jC (SB.out _ HK6.out) 7
            simp only [gT,gZ,gS] at z7
            have con:=pwhere_any Q6.out (LK.out _ HK6.out).wher OK.out.wher (by omega) OK.out.short.wher
            go_wp2_with fail
            refine con.mono ?_
            rintro e w7 ⟨rfl,k7,q7⟩
            obtain ⟨A7,hA7⟩:∃ A,A=A6 ++ whereP swher:=⟨_,rfl⟩
            have hL7:A7.length<=30000:=by
             rw [hA7,List.length_append]
             have:=where_len (l:=swher) OK.out.short.wher;omega
            rw [<- hA7] at q7
            have EA7:=hid hA7
            have HK7:=hid (HK6.out.trans k7)
            have Q7:=hid q7
            clear con k7 q7 hA7
            clear z7
            by_cases c9:sorder.length=0
            · have HO:=hid (show (if sorder.isEmpty=true then ([]:List ByteArray) else [w_order,w_by] ++ namesP sorder)=[] from if_pos (by rw [List.isEmpty_iff];exact List.eq_nil_of_length_eq_zero c9))
              have d9:decide (0<sorder.length)=false:=decide_eq_false (by omega)
              clear c9
              have z12:=jC (SB.out _ HK7.out) 12
              simp only [gT,gZ,gS] at z12
              go_wp2_with fail
              go_end0
              rw [HPST.out]
              refine ZQ.out _ _ _ ⟨rfl,HK7.out,?_⟩
              have e:A7=acc ++ queryP ⟨sk,stb,snm,scols,snames,srow,ssets,swher,sj,sl,sr,sa,sorder,sm,sn⟩:=by
               rw [EA7.out,EA6.out,EA5.out,EA4.out,EA3.out]
               show _=acc ++ ([w_select] ++ (if sa=1 then [w_countAll] else if 0<sa/\snames.length=1 then [aggS sa ++ w_lp ++ snames.headD noStr ++ w_rp] else namesP snames) ++ [w_from,stb] ++ (if sj=noStr then [] else [w_join,sj,w_on,sl,w_eq,sr]) ++ whereP swher ++ (if sorder.isEmpty=true then [] else [w_order,w_by] ++ namesP sorder))
               rw [HA.out,HJN.out,HO.out]
               simp only [List.append_assoc,List.nil_append,List.cons_append,List.append_nil]
              rw [<- e]
              exact Q7.out
            · have HO:=hid (show (if sorder.isEmpty=true then ([]:List ByteArray) else [w_order,w_by] ++ namesP sorder)=[w_order,w_by] ++ namesP sorder from if_neg (by rw [List.isEmpty_iff];exact fun e=>c9 (by rw [e];rfl)))
              have d9:decide (0<sorder.length)=true:=decide_eq_true (by omega)
              clear c9
              have z12:=jC (SB.out _ HK7.out) 12
              simp only [gT,gZ,gS] at z12
              have con:=add_words (w1:=w7.alloc (.cells (([w_order,w_by]:List ByteArray).map Value.string).toArray 9)) [w_order,w_by] (by simp) Q7.out rfl (by show A7.length+2<=1000000;omega)
              go_wp2_with fail
              refine con.mono ?_
              rintro e w8 ⟨rfl,k8,q8⟩
              obtain ⟨A8,hA8⟩:∃ A,A=A7 ++ ([w_order,w_by]:List ByteArray):=⟨_,rfl⟩
              have hL8:A8.length<=30002:=by
               rw [hA8,List.length_append]
               show A7.length+2<=30002;omega
              rw [<- hA8] at q8
              have EA8:=hid hA8
              have HK8:=hid (HK7.out.trans k8)
              have Q8:=hid q8
              clear con k8 q8 hA8
              clear z12
              have z12:=jC (SB.out _ HK8.out) 12
              simp only [gT,gZ,gS] at z12
              have con:=pnames_any Q8.out (LK.out _ HK8.out).order (by omega) OK.out.short.order
              go_wp2_with fail
              refine con.mono ?_
              rintro e w9 ⟨rfl,k9,q9⟩
              obtain ⟨A9,hA9⟩:∃ A,A=A8 ++ namesP sorder:=⟨_,rfl⟩
              have hL9:A9.length<=50000:=by
               rw [hA9,List.length_append]
               have:=names_len (l:=sorder) OK.out.short.order;omega
              rw [<- hA9] at q9
              have EA9:=hid hA9
              have HK9:=hid (HK8.out.trans k9)
              have Q9:=hid q9
              clear con k9 q9 hA9
              clear z12
              go_wp2_with fail
              go_end0
              rw [HPST.out]
              refine ZQ.out _ _ _ ⟨rfl,HK9.out,?_⟩
              have e:A9=acc ++ queryP ⟨sk,stb,snm,scols,snames,srow,ssets,swher,sj,sl,sr,sa,sorder,sm,sn⟩:=by
               rw [EA9.out,EA8.out,EA7.out,EA6.out,EA5.out,EA4.out,EA3.out]
               show _=acc ++ ([w_select] ++ (if sa=1 then [w_countAll] else if 0<sa/\snames.length=1 then [aggS sa ++ w_lp ++ snames.headD noStr ++ w_rp] else namesP snames) ++ [w_from,stb] ++ (if sj=noStr then [] else [w_join,sj,w_on,sl,w_eq,sr]) ++ whereP swher ++ (if sorder.isEmpty=true then [] else [w_order,w_by] ++ namesP sorder))
               rw [HA.out,HJN.out,HO.out]
               simp only [List.append_assoc,List.nil_append,List.cons_append,List.append_nil]
              rw [<- e]
              exact Q9.out
   · have HA:=hid (show (if sa=1 then [w_countAll] else if 0<sa/\snames.length=1 then [aggS sa ++ w_lp ++ snames.headD noStr ++ w_rp] else namesP snames)=namesP snames by rw [if_neg c1,if_neg c2])
     have d1:(sa == 1)=false:=by simpa using c1
     have z11:=jC (SB.out _ HK3.out) 11
     have z4:=jC (SB.out _ HK3.out) 4
     simp only [gT,gZ,gS] at z11 z4
     by_cases c3:¬ 0<sa
     · have d2:decide ((0:Int)<sa)=false:=decide_eq_false c3
       have con:=pnames_any Q3.out (LK.out _ HK3.out).names (by omega) OK.out.short.names
       go_wp2_with fail
       refine con.mono ?_
       rintro e w4 ⟨rfl,k4,q4⟩
       obtain ⟨A4,hA4⟩:∃ A,A=A3 ++ namesP snames:=⟨_,rfl⟩
       have hL4:A4.length<=5000:=by
        rw [hA4,List.length_append]
        have:=names_len (l:=snames) OK.out.short.names;omega
       rw [<- hA4] at q4
       have EA4:=hid hA4
       have HK4:=hid (HK3.out.trans k4)
       have Q4:=hid q4
       clear con k4 q4 hA4
       clear z11 z4 d1 d2
       have z1:=jC (SB.out _ HK4.out) 1
       simp only [gT,gZ,gS] at z1
       have con:=add_words (w1:=w4.alloc (.cells (([w_from,stb]:List ByteArray).map Value.string).toArray 9)) [w_from,stb] (by simp) Q4.out rfl (by show A4.length+2<=1000000;omega)
       go_wp2_with fail
       refine con.mono ?_
       rintro e w5 ⟨rfl,k5,q5⟩
       obtain ⟨A5,hA5⟩:∃ A,A=A4 ++ ([w_from,stb]:List ByteArray):=⟨_,rfl⟩
       have hL5:A5.length<=10000:=by
        rw [hA5,List.length_append]
        show A4.length+2<=10000;omega
       rw [<- hA5] at q5
       have EA5:=hid hA5
       have HK5:=hid (HK4.out.trans k5)
       have Q5:=hid q5
       clear con k5 q5 hA5
       clear z1
       by_cases c8:sj=noStr
       · have HJN:=hid (show (if sj=noStr then ([]:List ByteArray) else [w_join,sj,w_on,sl,w_eq,sr])=[] from if_pos c8)
         obtain ⟨d8,d9⟩:=str_none c8
         clear c8
         have z8:=jC (SB.out _ HK5.out) 8
         simp only [gT,gZ,gS] at z8
         go_upto_region 10 with (fail)
         clear z8 d8 d9
         have z7:=jC (SB.out _ HK5.out) 7
         simp only [gT,gZ,gS] at z7
         have con:=pwhere_any Q5.out (LK.out _ HK5.out).wher OK.out.wher (by omega) OK.out.short.wher
         go_wp2_with fail
         refine con.mono ?_
         rintro e w6 ⟨rfl,k6,q6⟩
         obtain ⟨A6,hA6⟩:∃ A,A=A5 ++ whereP swher:=⟨_,rfl⟩
         have hL6:A6.length<=30000:=by
          rw [hA6,List.length_append]
          have:=where_len (l:=swher) OK.out.short.wher;omega
         rw [<- hA6] at q6
         have EA6:=hid hA6
         have HK6:=hid (HK5.out.trans k6)
         have Q6:=hid q6
         clear con k6 q6 hA6
         clear z7
         by_cases c9:sorder.length=0
         · have HO:=hid (show (if sorder.isEmpty=true then ([]:List ByteArray) else [w_order,w_by] ++ namesP sorder)=[] from if_pos (by rw [List.isEmpty_iff];exact List.eq_nil_of_length_eq_zero c9))
           have d9:decide (0<sorder.length)=false:=decide_eq_false (by omega)
           clear c9
           have z12:=jC (SB.out _ HK6.out) 12
           simp only [gT,gZ,gS] at z12
           go_wp2_with fail
           go_end0
           rw [HPST.out]
           refine ZQ.out _ _ _ ⟨rfl,HK6.out,?_⟩
           have e:A6=acc ++ queryP ⟨sk,stb,snm,scols,snames,srow,ssets,swher,sj,sl,sr,sa,sorder,sm,sn⟩:=by
            rw [EA6.out,EA5.out,EA4.out,EA3.out]
            show _=acc ++ ([w_select] ++ (if sa=1 then [w_countAll] else if 0<sa/\snames.length=1 then [aggS sa ++ w_lp ++ snames.headD noStr ++ w_rp] else namesP snames) ++ [w_from,stb] ++ (if sj=noStr then [] else [w_join,sj,w_on,sl,w_eq,sr]) ++ whereP swher ++ (if sorder.isEmpty=true then [] else [w_order,w_by] ++ namesP sorder))
            rw [HA.out,HJN.out,HO.out]
            simp only [List.append_assoc,List.nil_append,List.cons_append,List.append_nil]
           rw [<- e]
           exact Q6.out
         · have HO:=hid (show (if sorder.isEmpty=true then ([]:List ByteArray) else [w_order,w_by] ++ namesP sorder)=[w_order,w_by] ++ namesP sorder from if_neg (by rw [List.isEmpty_iff];exact fun e=>c9 (by rw [e];rfl)))
           have d9:decide (0<sorder.length)=true:=decide_eq_true (by omega)
           clear c9
           have z12:=jC (SB.out _ HK6.out) 12
           simp only [gT,gZ,gS] at z12
           have con:=add_words (w1:=w6.alloc (.cells (([w_order,w_by]:List ByteArray).map Value.string).toArray 9)) [w_order,w_by] (by simp) Q6.out rfl (by show A6.length+2<=1000000;omega)
           go_wp2_with fail
           refine con.mono ?_
           rintro e w7 ⟨rfl,k7,q7⟩
           obtain ⟨A7,hA7⟩:∃ A,A=A6 ++ ([w_order,w_by]:List ByteArray):=⟨_,rfl⟩
           have hL7:A7.length<=30002:=by
            rw [hA7,List.length_append]
            show A6.length+2<=30002;omega
           rw [<- hA7] at q7
           have EA7:=hid hA7
           have HK7:=hid (HK6.out.trans k7)
           have Q7:=hid q7
           clear con k7 q7 hA7
           clear z12
           have z12:=jC (SB.out _ HK7.out) 12
           simp only [gT,gZ,gS] at z12
           have con:=pnames_any Q7.out (LK.out _ HK7.out).order (by omega) OK.out.short.order
           go_wp2_with fail
           refine con.mono ?_
           rintro e w8 ⟨rfl,k8,q8⟩
           obtain ⟨A8,hA8⟩:∃ A,A=A7 ++ namesP sorder:=⟨_,rfl⟩
           have hL8:A8.length<=50000:=by
            rw [hA8,List.length_append]
            have:=names_len (l:=sorder) OK.out.short.order;omega
           rw [<- hA8] at q8
           have EA8:=hid hA8
           have HK8:=hid (HK7.out.trans k8)
           have Q8:=hid q8
           clear con k8 q8 hA8
           clear z12
           go_wp2_with fail
           go_end0
           rw [HPST.out]
           refine ZQ.out _ _ _ ⟨rfl,HK8.out,?_⟩
           have e:A8=acc ++ queryP ⟨sk,stb,snm,scols,snames,srow,ssets,swher,sj,sl,sr,sa,sorder,sm,sn⟩:=by
            rw [EA8.out,EA7.out,EA6.out,EA5.out,EA4.out,EA3.out]
            show _=acc ++ ([w_select] ++ (if sa=1 then [w_countAll] else if 0<sa/\snames.length=1 then [aggS sa ++ w_lp ++ snames.headD noStr ++ w_rp] else namesP snames) ++ [w_from,stb] ++ (if sj=noStr then [] else [w_join,sj,w_on,sl,w_eq,sr]) ++ whereP swher ++ (if sorder.isEmpty=true then [] else [w_order,w_by] ++ namesP sorder))
            rw [HA.out,HJN.out,HO.out]
            simp only [List.append_assoc,List.nil_append,List.cons_append,List.append_nil]
           rw [<- e]
           exact Q8.out
       · have HJN:=hid (show (if sj=noStr then ([]:List ByteArray) else [w_join,sj,w_on,sl,w_eq,sr])=[w_join,sj,w_on,sl,w_eq,sr] from if_neg c8)
         obtain ⟨d8,d9⟩:=str_some c8
         clear c8
         have z8:=jC (SB.out _ HK5.out) 8
         have z9:=jC (SB.out _ HK5.out) 9
         have z10:=jC (SB.out _ HK5.out) 10
         simp only [gT,gZ,gS] at z8 z9 z10
         have con:=add_words (w1:=w5.alloc (.cells (([w_join,sj,w_on,sl,w_eq,sr]:List ByteArray).map Value.string).toArray 9)) [w_join,sj,w_on,sl,w_eq,sr] (by simp) Q5.out rfl (by show A5.length+6<=1000000;omega)
         go_wp2_with fail
         refine con.mono ?_
         rintro e w6 ⟨rfl,k6,q6⟩
         obtain ⟨A6,hA6⟩:∃ A,A=A5 ++ ([w_join,sj,w_on,sl,w_eq,sr]:List ByteArray):=⟨_,rfl⟩
         have hL6:A6.length<=10006:=by
          rw [hA6,List.length_append]
          show A5.length+6<=10006;omega
         rw [<- hA6] at q6
         have EA6:=hid hA6
         have HK6:=hid (HK5.out.trans k6)
         have Q6:=hid q6
         clear con k6 q6 hA6
         clear z8 z9 z10
         clear d8 d9
         have z7:=jC (SB.out _ HK6.out) 7
         simp only [gT,gZ,gS] at z7
         have con:=pwhere_any Q6.out (LK.out _ HK6.out).wher OK.out.wher (by omega) OK.out.short.wher
         go_wp2_with fail
         refine con.mono ?_
         rintro e w7 ⟨rfl,k7,q7⟩
         obtain ⟨A7,hA7⟩:∃ A,A=A6 ++ whereP swher:=⟨_,rfl⟩
         have hL7:A7.length<=30000:=by
          rw [hA7,List.length_append]
          have:=where_len (l:=swher) OK.out.short.wher;omega
         rw [<- hA7] at q7
         have EA7:=hid hA7
         have HK7:=hid (HK6.out.trans k7)
         have Q7:=hid q7
         clear con k7 q7 hA7
         clear z7
         by_cases c9:sorder.length=0
         · have HO:=hid (show (if sorder.isEmpty=true then ([]:List ByteArray) else [w_order,w_by] ++ namesP sorder)=[] from if_pos (by rw [List.isEmpty_iff];exact List.eq_nil_of_length_eq_zero c9))
           have d9:decide (0<sorder.length)=false:=decide_eq_false (by omega)
           clear c9
           have z12:=jC (SB.out _ HK7.out) 12
           simp only [gT,gZ,gS] at z12
           go_wp2_with fail
           go_end0
           rw [HPST.out]
           refine ZQ.out _ _ _ ⟨rfl,HK7.out,?_⟩
           have e:A7=acc ++ queryP ⟨sk,stb,snm,scols,snames,srow,ssets,swher,sj,sl,sr,sa,sorder,sm,sn⟩:=by
            rw [EA7.out,EA6.out,EA5.out,EA4.out,EA3.out]
            show _=acc ++ ([w_select] ++ (if sa=1 then [w_countAll] else if 0<sa/\snames.length=1 then [aggS sa ++ w_lp ++ snames.headD noStr ++ w_rp] else namesP snames) ++ [w_from,stb] ++ (if sj=noStr then [] else [w_join,sj,w_on,sl,w_eq,sr]) ++ whereP swher ++ (if sorder.isEmpty=true then [] else [w_order,w_by] ++ namesP sorder))
            rw [HA.out,HJN.out,HO.out]
            simp only [List.append_assoc,List.nil_append,List.cons_append,List.append_nil]
           rw [<- e]
           exact Q7.out
         · have HO:=hid (show (if sorder.isEmpty=true then ([]:List ByteArray) else [w_order,w_by] ++ namesP sorder)=[w_order,w_by] ++ namesP sorder from if_neg (by rw [List.isEmpty_iff];exact fun e=>c9 (by rw [e];rfl)))
           have d9:decide (0<sorder.length)=true:=decide_eq_true (by omega)
           clear c9
           have z12:=jC (SB.out _ HK7.out) 12
           simp only [gT,gZ,gS] at z12
           have con:=add_words (w1:=w7.alloc (.cells (([w_order,w_by]:List ByteArray).map Value.string).toArray 9)) [w_order,w_by] (by simp) Q7.out rfl (by show A7.length+2<=1000000;omega)
           go_wp2_with fail
           refine con.mono ?_
           rintro e w8 ⟨rfl,k8,q8⟩
           obtain ⟨A8,hA8⟩:∃ A,A=A7 ++ ([w_order,w_by]:List ByteArray):=⟨_,rfl⟩
           have hL8:A8.length<=30002:=by
            rw [hA8,List.length_append]
            show A7.length+2<=30002;omega
           rw [<- hA8] at q8
           have EA8:=hid hA8
           have HK8:=hid (HK7.out.trans k8)
           have Q8:=hid q8
           clear con k8 q8 hA8
           clear z12
           have z12:=jC (SB.out _ HK8.out) 12
           simp only [gT,gZ,gS] at z12
           have con:=pnames_any Q8.out (LK.out _ HK8.out).order (by omega) OK.out.short.order
           go_wp2_with fail
           refine con.mono ?_
           rintro e w9 ⟨rfl,k9,q9⟩
           obtain ⟨A9,hA9⟩:∃ A,A=A8 ++ namesP sorder:=⟨_,rfl⟩
           have hL9:A9.length<=50000:=by
            rw [hA9,List.length_append]
            have:=names_len (l:=sorder) OK.out.short.order;omega
           rw [<- hA9] at q9
           have EA9:=hid hA9
           have HK9:=hid (HK8.out.trans k9)
           have Q9:=hid q9
           clear con k9 q9 hA9
           clear z12
           go_wp2_with fail
           go_end0
           rw [HPST.out]
           refine ZQ.out _ _ _ ⟨rfl,HK9.out,?_⟩
           have e:A9=acc ++ queryP ⟨sk,stb,snm,scols,snames,srow,ssets,swher,sj,sl,sr,sa,sorder,sm,sn⟩:=by
            rw [EA9.out,EA8.out,EA7.out,EA6.out,EA5.out,EA4.out,EA3.out]
            show _=acc ++ ([w_select] ++ (if sa=1 then [w_countAll] else if 0<sa/\snames.length=1 then [aggS sa ++ w_lp ++ snames.headD noStr ++ w_rp] else namesP snames) ++ [w_from,stb] ++ (if sj=noStr then [] else [w_join,sj,w_on,sl,w_eq,sr]) ++ whereP swher ++ (if sorder.isEmpty=true then [] else [w_order,w_by] ++ namesP sorder))
            rw [HA.out,HJN.out,HO.out]
            simp only [List.append_assoc,List.nil_append,List.cons_append,List.append_nil]
           rw [<- e]
           exact Q9.out
     · have d2:decide ((0:Int)<sa)=true:=decide_eq_true (by omega)
       have d3:((snames.length:Int) == 1)=false:=by
        have:snames.length ≠ 1:=fun e=>c2 ⟨by omega,e⟩
        simpa using (show ¬ (snames.length:Int)=1 by omega)
       have d4:(snames.length == 1)=false:=by
        have:snames.length ≠ 1:=fun e=>c2 ⟨by omega,e⟩
        simpa using this
       clear c2
       have con:=pnames_any Q3.out (LK.out _ HK3.out).names (by omega) OK.out.short.names
       go_wp2_with fail
       refine con.mono ?_
       rintro e w4 ⟨rfl,k4,q4⟩
       obtain ⟨A4,hA4⟩:∃ A,A=A3 ++ namesP snames:=⟨_,rfl⟩
       have hL4:A4.length<=5000:=by
        rw [hA4,List.length_append]
        have:=names_len (l:=snames) OK.out.short.names;omega
       rw [<- hA4] at q4
       have EA4:=hid hA4
       have HK4:=hid (HK3.out.trans k4)
       have Q4:=hid q4
       clear con k4 q4 hA4
       clear z11 z4 d1 d2
       have z1:=jC (SB.out _ HK4.out) 1
       simp only [gT,gZ,gS] at z1
       have con:=add_words (w1:=w4.alloc (.cells (([w_from,stb]:List ByteArray).map Value.string).toArray 9)) [w_from,stb] (by simp) Q4.out rfl (by show A4.length+2<=1000000;omega)
       go_wp2_with fail
       refine con.mono ?_
       rintro e w5 ⟨rfl,k5,q5⟩
       obtain ⟨A5,hA5⟩:∃ A,A=A4 ++ ([w_from,stb]:List ByteArray):=⟨_,rfl⟩
       have hL5:A5.length<=10000:=by
        rw [hA5,List.length_append]
        show A4.length+2<=10000;omega
       rw [<- hA5] at q5
       have EA5:=hid hA5
       have HK5:=hid (HK4.out.trans k5)
       have Q5:=hid q5
       clear con k5 q5 hA5
       clear z1
       by_cases c8:sj=noStr
       · have HJN:=hid (show (if sj=noStr then ([]:List ByteArray) else [w_join,sj,w_on,sl,w_eq,sr])=[] from if_pos c8)
         obtain ⟨d8,d9⟩:=str_none c8
         clear c8
         have z8:=jC (SB.out _ HK5.out) 8
         simp only [gT,gZ,gS] at z8
         go_upto_region 10 with (fail)
         clear z8 d8 d9
         have z7:=jC (SB.out _ HK5.out) 7
         simp only [gT,gZ,gS] at z7
         have con:=pwhere_any Q5.out (LK.out _ HK5.out).wher OK.out.wher (by omega) OK.out.short.wher
         go_wp2_with fail
         refine con.mono ?_
         rintro e w6 ⟨rfl,k6,q6⟩
         obtain ⟨A6,hA6⟩:∃ A,A=A5 ++ whereP swher:=⟨_,rfl⟩
         have hL6:A6.length<=30000:=by
          rw [hA6,List.length_append]
          have:=where_len (l:=swher) OK.out.short.wher;omega
         rw [<- hA6] at q6
         have EA6:=hid hA6
         have HK6:=hid (HK5.out.trans k6)
         have Q6:=hid q6
         clear con k6 q6 hA6
         clear z7
         by_cases c9:sorder.length=0
         · have HO:=hid (show (if sorder.isEmpty=true then ([]:List ByteArray) else [w_order,w_by] ++ namesP sorder)=[] from if_pos (by rw [List.isEmpty_iff];exact List.eq_nil_of_length_eq_zero c9))
           have d9:decide (0<sorder.length)=false:=decide_eq_false (by omega)
           clear c9
           have z12:=jC (SB.out _ HK6.out) 12
           simp only [gT,gZ,gS] at z12
           go_wp2_with fail
           go_end0
           rw [HPST.out]
           refine ZQ.out _ _ _ ⟨rfl,HK6.out,?_⟩
           have e:A6=acc ++ queryP ⟨sk,stb,snm,scols,snames,srow,ssets,swher,sj,sl,sr,sa,sorder,sm,sn⟩:=by
            rw [EA6.out,EA5.out,EA4.out,EA3.out]
            show _=acc ++ ([w_select] ++ (if sa=1 then [w_countAll] else if 0<sa/\snames.length=1 then [aggS sa ++ w_lp ++ snames.headD noStr ++ w_rp] else namesP snames) ++ [w_from,stb] ++ (if sj=noStr then [] else [w_join,sj,w_on,sl,w_eq,sr]) ++ whereP swher ++ (if sorder.isEmpty=true then [] else [w_order,w_by] ++ namesP sorder))
            rw [HA.out,HJN.out,HO.out]
            simp only [List.append_assoc,List.nil_append,List.cons_append,List.append_nil]
           rw [<- e]
           exact Q6.out
         · have HO:=hid (show (if sorder.isEmpty=true then ([]:List ByteArray) else [w_order,w_by] ++ namesP sorder)=[w_order,w_by] ++ namesP sorder from if_neg (by rw [List.isEmpty_iff];exact fun e=>c9 (by rw [e];rfl)))
           have d9:decide (0<sorder.length)=true:=decide_eq_true (by omega)
           clear c9
           have z12:=jC (SB.out _ HK6.out) 12
           simp only [gT,gZ,gS] at z12
           have con:=add_words (w1:=w6.alloc (.cells (([w_order,w_by]:List ByteArray).map Value.string).toArray 9)) [w_order,w_by] (by simp) Q6.out rfl (by show A6.length+2<=1000000;omega)
           go_wp2_with fail
           refine con.mono ?_
           rintro e w7 ⟨rfl,k7,q7⟩
           obtain ⟨A7,hA7⟩:∃ A,A=A6 ++ ([w_order,w_by]:List ByteArray):=⟨_,rfl⟩
           have hL7:A7.length<=30002:=by
            rw [hA7,List.length_append]
            show A6.length+2<=30002;omega
           rw [<- hA7] at q7
           have EA7:=hid hA7
           have HK7:=hid (HK6.out.trans k7)
           have Q7:=hid q7
           clear con k7 q7 hA7
           clear z12
           have z12:=jC (SB.out _ HK7.out) 12
           simp only [gT,gZ,gS] at z12
           have con:=pnames_any Q7.out (LK.out _ HK7.out).order (by omega) OK.out.short.order
           go_wp2_with fail
           refine con.mono ?_
           rintro e w8 ⟨rfl,k8,q8⟩
           obtain ⟨A8,hA8⟩:∃ A,A=A7 ++ namesP sorder:=⟨_,rfl⟩
           have hL8:A8.length<=50000:=by
            rw [hA8,List.length_append]
            have:=names_len (l:=sorder) OK.out.short.order;omega
           rw [<- hA8] at q8
           have EA8:=hid hA8
           have HK8:=hid (HK7.out.trans k8)
           have Q8:=hid q8
           clear con k8 q8 hA8
           clear z12
           go_wp2_with fail
           go_end0
           rw [HPST.out]
           refine ZQ.out _ _ _ ⟨rfl,HK8.out,?_⟩
           have e:A8=acc ++ queryP ⟨sk,stb,snm,scols,snames,srow,ssets,swher,sj,sl,sr,sa,sorder,sm,sn⟩:=by
            rw [EA8.out,EA7.out,EA6.out,EA5.out,EA4.out,EA3.out]
            show _=acc ++ ([w_select] ++ (if sa=1 then [w_countAll] else if 0<sa/\snames.length=1 then [aggS sa ++ w_lp ++ snames.headD noStr ++ w_rp] else namesP snames) ++ [w_from,stb] ++ (if sj=noStr then [] else [w_join,sj,w_on,sl,w_eq,sr]) ++ whereP swher ++ (if sorder.isEmpty=true then [] else [w_order,w_by] ++ namesP sorder))
            rw [HA.out,HJN.out,HO.out]
            simp only [List.append_assoc,List.nil_append,List.cons_append,List.append_nil]
           rw [<- e]
           exact Q8.out
       · have HJN:=hid (show (if sj=noStr then ([]:List ByteArray) else [w_join,sj,w_on,sl,w_eq,sr])=[w_join,sj,w_on,sl,w_eq,sr] from if_neg c8)
         obtain ⟨d8,d9⟩:=str_some c8
         clear c8
         have z8:=jC (SB.out _ HK5.out) 8
         have z9:=jC (SB.out _ HK5.out) 9
         have z10:=jC (SB.out _ HK5.out) 10
         simp only [gT,gZ,gS] at z8 z9 z10
         have con:=add_words (w1:=w5.alloc (.cells (([w_join,sj,w_on,sl,w_eq,sr]:List ByteArray).map Value.string).toArray 9)) [w_join,sj,w_on,sl,w_eq,sr] (by simp) Q5.out rfl (by show A5.length+6<=1000000;omega)
         go_wp2_with fail
         refine con.mono ?_
         rintro e w6 ⟨rfl,k6,q6⟩
         obtain ⟨A6,hA6⟩:∃ A,A=A5 ++ ([w_join,sj,w_on,sl,w_eq,sr]:List ByteArray):=⟨_,rfl⟩
         have hL6:A6.length<=10006:=by
          rw [hA6,List.length_append]
          show A5.length+6<=10006;omega
         rw [<- hA6] at q6
         have EA6:=hid hA6
         have HK6:=hid (HK5.out.trans k6)
         have Q6:=hid q6
         clear con k6 q6 hA6
         clear z8 z9 z10
         clear d8 d9
         have z7:=jC (SB.out _ HK6.out) 7
         simp only [gT,gZ,gS] at z7
         have con:=pwhere_any Q6.out (LK.out _ HK6.out).wher OK.out.wher (by omega) OK.out.short.wher
         go_wp2_with fail
         refine con.mono ?_
         rintro e w7 ⟨rfl,k7,q7⟩
         obtain ⟨A7,hA7⟩:∃ A,A=A6 ++ whereP swher:=⟨_,rfl⟩
         have hL7:A7.length<=30000:=by
          rw [hA7,List.length_append]
          have:=where_len (l:=swher) OK.out.short.wher;omega
         rw [<- hA7] at q7
         have EA7:=hid hA7
         have HK7:=hid (HK6.out.trans k7)
         have Q7:=hid q7
         clear con k7 q7 hA7
         clear z7
         by_cases c9:sorder.length=0
         · have HO:=hid (show (if sorder.isEmpty=true then ([]:List ByteArray) else [w_order,w_by] ++ namesP sorder)=[] from if_pos (by rw [List.isEmpty_iff];exact List.eq_nil_of_length_eq_zero c9))
           have d9:decide (0<sorder.length)=false:=decide_eq_false (by omega)
           clear c9
           have z12:=jC (SB.out _ HK7.out) 12
           simp only [gT,gZ,gS] at z12
           go_wp2_with fail
           go_end0
           rw [HPST.out]
           refine ZQ.out _ _ _ ⟨rfl,HK7.out,?_⟩
           have e:A7=acc ++ queryP ⟨sk,stb,snm,scols,snames,srow,ssets,swher,sj,sl,sr,sa,sorder,sm,sn⟩:=by
            rw [EA7.out,EA6.out,EA5.out,EA4.out,EA3.out]
            show _=acc ++ ([w_select] ++ (if sa=1 then [w_countAll] else if 0<sa/\snames.length=1 then [aggS sa ++ w_lp ++ snames.headD noStr ++ w_rp] else namesP snames) ++ [w_from,stb] ++ (if sj=noStr then [] else [w_join,sj,w_on,sl,w_eq,sr]) ++ whereP swher ++ (if sorder.isEmpty=true then [] else [w_order,w_by] ++ namesP sorder))
            rw [HA.out,HJN.out,HO.out]
            simp only [List.append_assoc,List.nil_append,List.cons_append,List.append_nil]
           rw [<- e]
           exact Q7.out
         · have HO:=hid (show (if sorder.isEmpty=true then ([]:List ByteArray) else [w_order,w_by] ++ namesP sorder)=[w_order,w_by] ++ namesP sorder from if_neg (by rw [List.isEmpty_iff];exact fun e=>c9 (by rw [e];rfl)))
           have d9:decide (0<sorder.length)=true:=decide_eq_true (by omega)
           clear c9
           have z12:=jC (SB.out _ HK7.out) 12
           simp only [gT,gZ,gS] at z12
           have con:=add_words (w1:=w7.alloc (.cells (([w_order,w_by]:List ByteArray).map Value.string).toArray 9)) [w_order,w_by] (by simp) Q7.out rfl (by show A7.length+2<=1000000;omega)
           go_wp2_with fail
           refine con.mono ?_
           rintro e w8 ⟨rfl,k8,q8⟩
           obtain ⟨A8,hA8⟩:∃ A,A=A7 ++ ([w_order,w_by]:List ByteArray):=⟨_,rfl⟩
           have hL8:A8.length<=30002:=by
            rw [hA8,List.length_append]
            show A7.length+2<=30002;omega
           rw [<- hA8] at q8
           have EA8:=hid hA8
           have HK8:=hid (HK7.out.trans k8)
           have Q8:=hid q8
           clear con k8 q8 hA8
           clear z12
           have z12:=jC (SB.out _ HK8.out) 12
           simp only [gT,gZ,gS] at z12
           have con:=pnames_any Q8.out (LK.out _ HK8.out).order (by omega) OK.out.short.order
           go_wp2_with fail
           refine con.mono ?_
           rintro e w9 ⟨rfl,k9,q9⟩
           obtain ⟨A9,hA9⟩:∃ A,A=A8 ++ namesP sorder:=⟨_,rfl⟩
           have hL9:A9.length<=50000:=by
            rw [hA9,List.length_append]
            have:=names_len (l:=sorder) OK.out.short.order;omega
           rw [<- hA9] at q9
           have EA9:=hid hA9
           have HK9:=hid (HK8.out.trans k9)
           have Q9:=hid q9
           clear con k9 q9 hA9
           clear z12
           go_wp2_with fail
           go_end0
           rw [HPST.out]
           refine ZQ.out _ _ _ ⟨rfl,HK9.out,?_⟩
           have e:A9=acc ++ queryP ⟨sk,stb,snm,scols,snames,srow,ssets,swher,sj,sl,sr,sa,sorder,sm,sn⟩:=by
            rw [EA9.out,EA8.out,EA7.out,EA6.out,EA5.out,EA4.out,EA3.out]
            show _=acc ++ ([w_select] ++ (if sa=1 then [w_countAll] else if 0<sa/\snames.length=1 then [aggS sa ++ w_lp ++ snames.headD noStr ++ w_rp] else namesP snames) ++ [w_from,stb] ++ (if sj=noStr then [] else [w_join,sj,w_on,sl,w_eq,sr]) ++ whereP swher ++ (if sorder.isEmpty=true then [] else [w_order,w_by] ++ namesP sorder))
            rw [HA.out,HJN.out,HO.out]
            simp only [List.append_assoc,List.nil_append,List.cons_append,List.append_nil]
           rw [<- e]
           exact Q9.out
end
end Go.Proofs.YtjcpccadmcglgaaGreatDoor
