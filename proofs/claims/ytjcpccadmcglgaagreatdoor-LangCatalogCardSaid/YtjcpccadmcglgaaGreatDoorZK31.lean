/- quoted: a text in quotes. -/
import Derived.Test.YtjcpccadmcglgaaGreatDoorZK27
import Derived.Test.YtjcpccadmcglgaaGreatDoorZK30
set_option linter.unusedVariables false
set_option linter.unusedSimpArgs false
set_option maxRecDepth 100000
set_option maxHeartbeats 64000000
namespace Go.Proofs.YtjcpccadmcglgaaGreatDoor
open Go.Lib (hid)
section
open Go.RowKit
def QuotePost (s:ByteArray) (a:Nat) (w:World) (e:Ending) (w':World):Prop :=
 Below w.heap.size w w'/\match quoteM (s.data.toList.drop (a+1)) with
 | some q=>if q.1.length<=40 then e=.returned (.tuple #[.string ⟨q.1.toArray⟩,.int .i64 ((a+1+q.2:Nat):Int)]) else e=trouble (a,62)
 | none=>e=trouble (a,62)
def QI (s:ByteArray) (a k:Nat) (acc:List UInt8):Prop:=acc.length<=k/\quoteM (s.data.toList.drop (a+1))=(quoteM (s.data.toList.drop k)).map fun q=>(acc ++ q.1,(k - (a+1))+q.2)
theorem quote_other {c:UInt8} {r:List UInt8} (h:c ≠ 39):quoteM (c :: r)=(quoteM r).map fun q=>(c :: q.1,q.2+1):=by
 rw [quoteM.eq_def]
 split
 · rename_i h1;cases h1
 · rename_i h1;cases h1;exact absurd rfl h
 · rename_i h1;cases h1;exact absurd rfl h
 · rename_i h1;cases h1;rfl
theorem quote_two (r:List UInt8):quoteM (39 :: 39 :: r)=(quoteM r).map fun q=>(39 :: q.1,q.2+2):=by rw [quoteM]
theorem quote_end {r:List UInt8} (h:∀ x,r.head? = some x->x ≠ 39):quoteM (39 :: r)=some ([],1):=by
 cases r with
 | nil=>rfl
 | cons x r =>
  have hx:=h x rfl
  rw [quoteM.eq_def]
  split
  · rename_i h1;cases h1
  · rename_i h1;cases h1;exact absurd rfl hx
  · rfl
  · rename_i h1 h2;cases h2;exact (h1 rfl).elim
theorem QI.other {s:ByteArray} {a k:Nat} {acc:List UInt8} (h:QI s a k acc) (hk:k<s.size) (ha:a+1<=k) (hc:s[k] ≠ 39):QI s a (k+1) (acc ++ [s[k]]):=by
 refine ⟨by simp;exact h.1,?_⟩
 rw [h.2,drop_step s k hk,quote_other hc,Option.map_map]
 congr 1
 funext q
 simp;omega
theorem QI.two {s:ByteArray} {a k:Nat} {acc:List UInt8} (h:QI s a k acc) (hk:k+1<s.size) (ha:a+1<=k) (h1:s[k]=39) (h2:s[k+1]=39):QI s a (k+2) (acc ++ [39]):=by
 refine ⟨by simp;have:=h.1;omega,?_⟩
 rw [h.2,drop_step s k (by omega),drop_step s (k+1) hk,h1,h2,quote_two,Option.map_map]
 congr 1
 funext q
 simp;omega
theorem QI.stop {s:ByteArray} {a k:Nat} {acc:List UInt8} (h:QI s a k acc) (hk:k<s.size) (ha:a+1<=k) (h1:s[k]=39) (h2:∀ hx:k+1<s.size,s[k+1] ≠ 39):quoteM (s.data.toList.drop (a+1))=some (acc,k - (a+1)+1):=by
 rw [h.2,drop_step s k hk,h1,quote_end (fun x hx=>?_)]
 · simp
 · by_cases h3:k+1<s.size
   · rw [drop_step s (k+1) h3] at hx
     simp only [List.head?_cons,Option.some.injEq] at hx
     rw [<- hx]
     exact h2 h3
   · rw [List.drop_eq_nil_of_le (by simp;omega)] at hx
     cases hx
theorem QI.none {s:ByteArray} {a k:Nat} {acc:List UInt8} (h:QI s a k acc) (hk:s.size<=k):quoteM (s.data.toList.drop (a+1))=none:=by
 rw [h.2,List.drop_eq_nil_of_le (by simpa using hk)]
 rfl
theorem quoted_any (s:ByteArray) (a:Nat) (ha:a<s.size) (hs:s.size<=4294967000) (w:World) :
 Calls Tryz.prog 65 #[.string s,.int .i64 a] w fun e w'=>QuotePost s a w e w':=by
 obtain ⟨Pst,hPst⟩:∃ Pst,Pst=QuotePost s a w:=⟨_,rfl⟩
 have HPST:=hid hPst
 rw [<- hPst]
 obtain ⟨w1,hw1⟩:∃ W,w.alloc (.cells #[.pointer none,.slice none 0 0] 80)=W:=⟨_,rfl⟩
 have hb1:BB w [] w1:=by rw [<- hw1];exact bb_start w
 have HB1:=hid hb1
 clear hPst hb1
 go_enter Tryz.func65,Tryz.ntmps65
 go_wp2_with fail
 clear hw1
 go_loopw [7] (fun ii wr=>∃ (k:Nat) (acc:List UInt8),a+1<=k/\k<=s.size/\ii=.int .i64 k/\Hid (BB w acc wr)/\Hid (QI s a k acc)) (fun ii _=>s.size - (intOf ii).toNat)
 case atStart=>exact ⟨a+1,[],jR _,ha,by go_num,HB1,hid ⟨Nat.zero_le _,by simp⟩⟩
 case round =>
  obtain ⟨k,acc,hk1,hk2,rfl,HB,HQ⟩:=hrel
  by_cases hlt:k<s.size
  · have hla:acc.length<=4294967000:=Nat.le_trans HQ.out.1 (by omega)
    by_cases hc:s[k]=39
    case neg =>
     have hci:¬ ((s[k].toNat:Int)=39):=fun e=>hc (UInt8.toNat_inj.1 (by show s[k].toNat=39;omega))
     have HQ2:=hid (HQ.out.other hlt hk1 hc)
     have con:=wb_any s[k] HB.out (by omega)
     clear hc
     go_wp2_with fail
     refine con.mono ?_
     rintro e w6 ⟨rfl,hb⟩
     have HB6:=hid hb
     clear con hb
     go_wp2_with fail
     go_roundw
     case rel=>exact ⟨k+1,acc ++ [s[k]],by omega,by omega,by go_num,HB6,HQ2⟩
     case measure=>simp [intOf];omega
    have hci:(s[k].toNat:Int)=39:=by rw [hc];rfl
    by_cases h1:k+1=s.size
    case pos =>
     have HEND:∀ hx:k+1<s.size,s[k+1] ≠ 39:=fun hx=>absurd hx (by omega)
     have hi1:(k:Int)+1=(s.size:Int):=by omega
     have HS:=hid (HQ.out.stop hlt hk1 hc HEND)
     have con:=len_any HB.out
     by_cases hl:acc.length<=40
     · have con2:=string_any HB.out
       go_wp2_with fail
       refine con.mono ?_
       rintro e w6 ⟨rfl,rfl⟩
       clear con
       go_wp2_with fail
       refine con2.mono ?_
       rintro e w7 ⟨rfl,hb⟩
       have HB7:=hid hb
       clear con2 hb
       go_wp2_with fail
       rw [HPST.out]
       refine ⟨HB7.out,?_⟩
       rw [HS.out]
       show if acc.length<=40 then _ else _
       rw [if_pos hl]
       exact congrArg (fun z=>Ending.returned (.tuple #[.string ⟨acc.toArray⟩,.int .i64 z])) (show (s.size:Int)=((a+1+(k - (a+1)+1):Nat):Int) by omega)
     · go_wp2_with fail
       refine con.mono ?_
       rintro e w6 ⟨rfl,rfl⟩
       clear con
       have con:=fail_any a 62 w6
       go_wp2_with fail
       refine con.mono ?_
       rintro e w7 ⟨rfl,rfl⟩
       go_wp2_with fail
       refine ⟨rfl,?_⟩
       rw [HPST.out]
       refine ⟨HB.out.1,?_⟩
       rw [HS.out]
       show if acc.length<=40 then _ else _
       rw [if_neg hl]
    have hk3:k+1<s.size:=by omega
    have hi1:((k:Int)+1 == (s.size:Int))=false:=by rw [beq_eq_false_iff_ne];omega
    by_cases h2:s[k+1]=39
    case neg =>
     have h2i:((s[k+1].toNat:Int) != 39)=true:=by rw [bne_iff_ne];exact fun e=>h2 (UInt8.toNat_inj.1 (by show s[k+1].toNat=39;omega))
     have HEND:∀ hx:k+1<s.size,s[k+1] ≠ 39:=fun hx=>h2
     have HS:=hid (HQ.out.stop hlt hk1 hc HEND)
     have con:=len_any HB.out
     by_cases hl:acc.length<=40
     · have con2:=string_any HB.out
       go_wp2_with fail
       refine con.mono ?_
       rintro e w6 ⟨rfl,rfl⟩
       clear con
       go_wp2_with fail
       refine con2.mono ?_
       rintro e w7 ⟨rfl,hb⟩
       have HB7:=hid hb
       clear con2 hb
       go_wp2_with fail
       rw [HPST.out]
       refine ⟨HB7.out,?_⟩
       rw [HS.out]
       show if acc.length<=40 then _ else _
       rw [if_pos hl]
       exact congrArg (fun z=>Ending.returned (.tuple #[.string ⟨acc.toArray⟩,.int .i64 z])) (show ((k:Int)+1)=((a+1+(k - (a+1)+1):Nat):Int) by omega)
     · go_wp2_with fail
       refine con.mono ?_
       rintro e w6 ⟨rfl,rfl⟩
       clear con
       have con:=fail_any a 62 w6
       go_wp2_with fail
       refine con.mono ?_
       rintro e w7 ⟨rfl,rfl⟩
       go_wp2_with fail
       refine ⟨rfl,?_⟩
       rw [HPST.out]
       refine ⟨HB.out.1,?_⟩
       rw [HS.out]
       show if acc.length<=40 then _ else _
       rw [if_neg hl]
    have h2i:(s[k+1].toNat:Int)=39:=by rw [h2];rfl
    have HQ2:=hid (HQ.out.two hk3 hk1 hc h2)
    have con:Calls Tryz.prog 36 #[.pointer (some ⟨w.heap.size,0,none⟩),.int .u8 39] wr fun e w'=>e=.returned .nilIface/\BB w (acc ++ [39]) w':=wb_any 39 HB.out (by omega)
    clear hc h2
    go_wp2_with fail
    refine con.mono ?_
    rintro e w6 ⟨rfl,hb⟩
    have HB6:=hid hb
    clear con hb
    go_wp2_with fail
    go_roundw
    case rel=>exact ⟨k+2,acc ++ [39],by omega,by omega,by go_num,HB6,HQ2⟩
    case measure=>simp [intOf];omega
  · have HN:=hid (HQ.out.none (by omega))
    have con:=fail_any a 62 wr
    go_wp2_with fail
    refine con.mono ?_
    rintro e w6 ⟨rfl,rfl⟩
    go_wp2_with fail
    refine ⟨rfl,?_⟩
    rw [HPST.out]
    refine ⟨HB.out.1,?_⟩
    rw [HN.out]
end
section
open Go.RowKit
theorem row_start {en:Nat} {S:PS} (ht:∀ t ∈ S.l,TokOk t) (h:valuedT (nowT en S)=false):∃ er,rowOne en S=.error er:=by
 have hv:∃ er,valueM en S=.error er:=by
  unfold valuedT at h
  simp only [Bool.or_eq_false_iff,Bool.and_eq_false_iff] at h
  obtain ⟨⟨h2,h3⟩,h1⟩:=h
  have hb:isB [w_null] S.l=false:=by
   obtain ⟨l,s,o⟩:=S
   cases l with
   | nil=>rfl
   | cons t r =>
    have hn:=(ht t List.mem_cons_self).null
    change (t.kind == 1)=false \/ decide (t.text=w_null)=false at h1
    show (wordB w_null t && isB [] r)=false
    unfold wordB
    by_cases hx:t.text=w_null
    · have h4:(t.kind == 4)=false:=by
       rw [beq_eq_false_iff_ne]
       exact fun e=>hn e hx
      have h5:(t.kind == 1)=false:=h1.resolve_right (by simp [hx])
      simp [h4,h5]
    · simp [hx]
  refine ⟨((nowT en S).pos,60),?_⟩
  unfold valueM
  rw [hb,h2,h3]
  rfl
 obtain ⟨er,he⟩:=hv
 exact ⟨er,(congrFun (rowOne_eq en) S).trans (bind_error he)⟩
theorem insert_any {X:Nat->Prop} {b en:Nat} {S:PS} {w:World} (h:PAt X b en S w) (hz:S.s.row.length<=500) :
 Calls Tryz.prog 40 #[.pointer (some ⟨b,0,none⟩)] w fun e w'=>StepU X b en w (insertM en S) e w':=by
 have hmf:=hmf
 obtain ⟨Pst,hPst⟩:∃ Pst,Pst=StepU X b en w (insertM en S):=⟨_,rfl⟩
 have HPST:=hid hPst
 rw [<- hPst]
 have HB0:=hid (show b<w.heap.size/\w.heap.size ≠ b/\(∀ k,k<b->X k)/\¬ X b from ⟨h.lt_box,fun e=>by have:=h.lt_box;omega,h.old,h.nb⟩)
 have HZ0:=hid hz
 clear hz
 obtain ⟨w1,hw1⟩:∃ W,w.alloc (.cells #[.pointer (some ⟨b,0,none⟩)] 63)=W:=⟨_,rfl⟩
 have bB:Below w.heap.size w w1:=by rw [<- hw1];exact (b0R).alloc (jR _) _
 have hqb:w1.heap[w.heap.size]? = some (.cells #[.pointer (some ⟨b,0,none⟩)] 63 (0,0)):=by rw [<- hw1];exact heap_alloc_new _ _
 obtain ⟨Y,hY⟩:∃ Y:Nat->Prop,Y=fun k=>X k \/ (w.heap.size<=k/\k<w1.heap.size):=⟨_,rfl⟩
 have hp:PAt Y b en S w1:=by rw [hY];exact h.more bB (fun _ h=>Or.inl h) (fun _ h=>h)
 have hyq:Y w.heap.size:=by rw [hY];exact Or.inr ⟨jR _,jB hqb⟩
 have hxy:∀ k,X k->Y k:=by rw [hY];exact fun k hk=>Or.inl hk
 have HXY:=hid (show (∀ k,X k->Y k)/\Y w.heap.size from ⟨hxy,hyq⟩)
 have FK:=hid (show ∀ w',Kept Y w1 w'->Kept X w w' from fun w' k=>(Below.kept bB X).trans (k.weaken fun i _ hx=>hxy i hx))
 have FP:=hid (show ∀ S' w',PAt Y b en S' w'->PAt X b en S' w' from fun S' w' p=>p.fewer hxy h.old)
 have QB:=hid (show ∀ w',Kept Y w1 w'->w'.heap[w.heap.size]? = some (.cells #[.pointer (some ⟨b,0,none⟩)] 63 (0,0)) from fun w' k=>(k.block _ hyq (jB hqb)).trans hqb)
 have NB:=hid (show ¬ Y b from hp.nb)
 obtain ⟨S1,hS1⟩:∃ x,x=S:=⟨_,rfl⟩
 have HK1:=hid (Kept.refl Y w1)
 have P1:=hid (show PAt Y b en S1 w1 by rw [hS1];exact hp)
 have HE1:=hid ((congrArg (insertM en) hS1.symm).trans (congrFun (insert_eq en) S1))
 have HS1:=hid hS1
 clear h hPst bB hqb hY hp hyq hxy hS1
 go_enter Tryz.func40,Tryz.ntmps40
 go_upto_region 1 with (fail)
 clear hw1
 have kp:=jC (QB.out _ HK1.out) 0
 simp only [List.getElem?_toArray,List.getElem?_cons_zero] at kp
 have con:=must_any (P1.out.below ((b0R).alloc (jR _) (.cells #[.string w_into] 9))) (words_at w1 [w_into] (by simp)) (fun k hk=>by have:=P1.out.lt_box;omega)
 go_wp2_with fail
 refine con.mono ?_
 rintro e w2 ⟨g,h⟩
 have HK2:=hid (HK1.out.leaf ((World.grownBy_alloc w1 (.cells #[.string w_into] 9) (some b)).trans g.g) NB.out)
 clear con g kp
 obtain ⟨S2,h2,rfl,p2⟩|⟨er,h2,rfl⟩:=h
 case inr =>
  have HR:=hid (show insertM en S=.error er from HE1.out.trans (bind_error h2))
  clear h2
  go_wp2_with fail
  refine ⟨rfl,?_⟩
  rw [HPST.out]
  exact ⟨FK.out _ HK2.out,Or.inr ⟨er,HR.out,rfl⟩⟩
 have HS2:=hid (show S2.s=S1.s from (must_state h2).1)
 have HE2:=hid (HE1.out.trans (bind_ok h2))
 have P2:=hid p2
 clear h2 p2
 have HEN:=hid (show ∀ args w,(callFunc 79 args).run Tryz.prog w=.ok (.enter 79 args) w from enters_of Tryz.func79 (by kernel_rfl) rfl)
 go_upto_region 2 with (fail)
 cases hn:nameM en S2 with
 | error er =>
  have HR:=hid (show insertM en S=.error er from HE2.out.trans (bind_error hn))
  have HN:=hid hn
  clear hn
  apply wp_region_dies [2,0,1] 3 (Below w2.heap.size w2) (fun e w'=>e=trouble er/\Kept Y w1 w')
  case hq =>
   intro z1 hz1
   have ne:Nonempty (Wld (Below z1.heap.size z1)):=⟨⟨z1,Below.refl _ _⟩⟩
   have c0:=fun x:Wld (Below z1.heap.size z1)=>jC (QB.out x.val ((HK2.out.trans (Below.kept hz1 Y)).trans (Below.kept x.good Y))) 0
   simp only [List.getElem?_toArray,List.getElem?_cons_zero] at c0
   simp only [pickOps,List.getElem?_cons_zero,List.getElem?_cons_succ]
   apply quiet_hide
   intro KE hKE
   repeat (go_big_quiet_step (fail))
   refine wpQuiet_nil ?_
   exact hKE _ rfl
  case hm=>kernel_rfl
  case hB=>kernel_rfl
  case hl=>decide
  case hI=>exact fun z1 z2 h b=>h.trans (b.mono h.size)
  case hw=>exact Below.drew b0R
  case ho=>rfl
  case hwant=>kernel_rfl
  case hd =>
   intro z1 hz1
   refine dies_call (args:=#[.pointer (some ⟨b,0,none⟩)]) (run_call_func rfl (by kernel_rfl) HEN.out) ((name_any (P2.out.below hz1)).mono ?_)
   rintro e z2 ⟨g2,⟨_,_,h2,_⟩|⟨er',h2,rfl⟩⟩
   · rw [HN.out] at h2;cases h2
   · rw [HN.out] at h2
     cases h2
     exact ⟨⟨_,rfl⟩,rfl,(HK2.out.trans (Below.kept hz1 Y)).leaf g2.g NB.out⟩
  case hQ =>
   rintro a' w' ch hd ⟨h1,h2⟩
   refine ⟨hd,?_⟩
   rw [HPST.out]
   exact ⟨FK.out _ h2,Or.inr ⟨er,HR.out,h1⟩⟩
 | ok q =>
  obtain ⟨nm,T3⟩:=q
  have HT3:=hid (show T3.s=S2.s from by rw [name_keeps hn])
  have HE3:=hid (HE2.out.trans (bind_ok hn))
  have HN:=hid hn
  clear hn
  refine wp_region_loose2 [([2,0,1],3),([4,5,6],7),([8,9,10],11)] (fun w'=>w'.heap[w.heap.size]? = some (.cells #[.pointer (some ⟨b,0,none⟩)] 63 (0,0))) (Below w2.heap.size w2) (by kernel_rfl) (by kernel_rfl) (by kernel_rfl) (fun z1 z2 h b=>h.trans (b.mono h.size)) (Below.drew b0R) ?_
  apply wpSegs_call (fun w'=>w'.heap[w.heap.size]? = some (.cells #[.pointer (some ⟨b,0,none⟩)] 63 (0,0))) (fun u w'=>u=.string nm/\PAt Y b en T3 w'/\Kept Y w1 w') (fun _ h=>h) (fun w' h=>QB.out w' (HK2.out.trans (Below.kept h Y)))
  case hq =>
   intro z1 hz1
   have ne:Nonempty (Wld (Below z1.heap.size z1)):=⟨⟨z1,Below.refl _ _⟩⟩
   have c0:=fun x:Wld (Below z1.heap.size z1)=>jC ((x.good.block _ (jB hz1)).trans hz1) 0
   simp only [List.getElem?_toArray,List.getElem?_cons_zero] at c0
   simp only [pickOps,List.getElem?_cons_zero,List.getElem?_cons_succ]
   apply quiet_hide
   intro KE hKE
   repeat (go_big_quiet_step (fail))
   refine wpQuiet_nil ?_
   exact hKE _ rfl
  case ho=>rfl
  case hw=>kernel_rfl
  case hD=>exact fun u z1 z2 h hb=>⟨h.1,h.2.1.below hb,h.2.2.trans (Below.kept hb Y)⟩
  case hDJ=>exact fun _ u w' h=>QB.out w' h.2.2
  case hlo =>
   intro z1 hz1
   refine loose_call (args:=#[.pointer (some ⟨b,0,none⟩)]) (run_call_func rfl (by kernel_rfl) HEN.out) ((name_any (P2.out.below hz1)).mono ?_)
   rintro e z2 ⟨g2,⟨a,S',h2,rfl,p2⟩|⟨er',h2,rfl⟩⟩
   · rw [HN.out] at h2
     cases h2
     exact ⟨_,rfl,rfl,p2,(HK2.out.trans (Below.kept hz1 Y)).leaf g2.g NB.out⟩
   · rw [HN.out] at h2;cases h2
  case hrest =>
   rintro u z1 ⟨rfl,-,-⟩
   simp only [Act.put,List.setIfInBounds_toArray,List.set_cons_succ,List.set_cons_zero]
   apply wpSegs_cons (fun w'=>w'.heap[w.heap.size]? = some (.cells #[.pointer (some ⟨b,0,none⟩)] 63 (0,0))) (fun _ w'=>PAt Y b en ({ T3 with s:={ T3.s with kind:=4 } }:PS) w'/\Kept Y w1 w') (fun _ h=>h) (fun w' h=>QB.out w' h.2.2)
   case hq =>
    intro z1 hz1
    have ne:Nonempty (Wld (Below z1.heap.size z1)):=⟨⟨z1,Below.refl _ _⟩⟩
    simp only [pickOps,List.getElem?_cons_zero,List.getElem?_cons_succ]
    apply quiet_hide
    intro KE hKE
    repeat (go_big_quiet_step (fail))
    refine wpQuiet_nil ?_
    exact hKE _ rfl
   case hDJ=>exact fun _ u w' h=>QB.out w' h.2
   case ho=>rfl
   case hop=>rfl
   case hw=>kernel_rfl
   case hD=>exact fun u z1 z2 h hb=>⟨h.1.below hb,h.2.trans (Below.kept hb Y)⟩
   case hlo =>
    rintro wa ⟨_,hp,hk⟩
    obtain ⟨_,_,L,hbx,_,_⟩:=hp.open
    have cx:=jC hbx 2
    have fx:=free_of hbx 2
    simp only [boxC,List.getElem?_toArray,List.getElem?_cons_zero,List.getElem?_cons_succ] at cx
    have HP:=hid hp
    have HK:=hid hk
    clear hbx hp hk
    go_wp2_with fail
    have st:=HP.out.store (j:=2) (v:=.int .i64 4) (s':={ T3.s with kind:=4 }) (fun _ _=>rfl) ⟨rfl,rfl,rfl,rfl,rfl,rfl⟩
    exact ⟨st.1,HK.out.leaf st.2 NB.out⟩
   case hrest =>
    rintro _ z1 -
    simp only [Act.put,List.setIfInBounds_toArray,List.set_cons_succ,List.set_cons_zero]
    apply wpSegs_cons (fun w'=>w'.heap[w.heap.size]? = some (.cells #[.pointer (some ⟨b,0,none⟩)] 63 (0,0))) (fun _ w'=>PAt Y b en ({ T3 with s:={ T3.s with kind:=4,table:=nm } }:PS) w'/\Kept Y w1 w') (fun _ h=>h) (fun w' h=>QB.out w' h.2)
    case hq =>
     intro z1 hz1
     have ne:Nonempty (Wld (Below z1.heap.size z1)):=⟨⟨z1,Below.refl _ _⟩⟩
     simp only [pickOps,List.getElem?_cons_zero,List.getElem?_cons_succ]
     apply quiet_hide
     intro KE hKE
     repeat (go_big_quiet_step (fail))
     refine wpQuiet_nil ?_
     exact hKE _ rfl
    case hDJ=>exact fun _ u w' h=>QB.out w' h.2
    case ho=>rfl
    case hop=>rfl
    case hw=>kernel_rfl
    case hD=>exact fun u z1 z2 h hb=>⟨h.1.below hb,h.2.trans (Below.kept hb Y)⟩
    case hlo =>
     rintro wa ⟨hp,hk⟩
     obtain ⟨_,_,L,hbx,_,_⟩:=hp.open
     have cx:=jC hbx 3
     have fx:=free_of hbx 3
     simp only [boxC,List.getElem?_toArray,List.getElem?_cons_zero,List.getElem?_cons_succ] at cx
     have HP:=hid hp
     have HK:=hid hk
     clear hbx hp hk
     go_wp2_with fail
     have st:=HP.out.store (j:=3) (v:=.string nm) (s':={ T3.s with kind:=4,table:=nm }) (fun _ _=>rfl) ⟨rfl,rfl,rfl,rfl,rfl,rfl⟩
     exact ⟨st.1,HK.out.leaf st.2 NB.out⟩
    case hrest =>
     rintro u9 w9x h9x
     refine wpSegs_nil fun w3 h9=>?_
     obtain ⟨S3,hS3⟩:∃ T,T=({ T3 with s:={ T3.s with kind:=4,table:=nm } }:PS):=⟨_,rfl⟩
     have P3:=hid (show PAt Y b en S3 w3 by rw [hS3];exact h9.1)
     have HK3:=hid (show Kept Y w1 w3 from h9.2)
     have HE3:=hid (show insertM en S=_ from HE3.out.trans (bind_ok (a:=()) (S':=({ T3 with s:={ T3.s with kind:=4,table:=nm } }:PS)) rfl))
     rw [<- hS3] at HE3
     have HS3:=hid hS3
     clear h9 h9x hS3 HN HEN
     have kp:=jC (QB.out _ HK3.out) 0
     simp only [List.getElem?_toArray,List.getElem?_cons_zero] at kp
     have con:=must_any (P3.out.below ((b0R).alloc (jR _) (.cells #[.string w_values,.string w_lp] 9))) (words_at w3 [w_values,w_lp] (by simp)) (fun k hk=>by have:=P3.out.lt_box;omega)
     go_wp2_with fail
     refine con.mono ?_
     rintro e w4 ⟨g,h⟩
     have HK4:=hid (HK3.out.leaf ((World.grownBy_alloc w3 (.cells #[.string w_values,.string w_lp] 9) (some b)).trans g.g) NB.out)
     clear con g kp
     obtain ⟨S4,h4,rfl,p4⟩|⟨er,h4,rfl⟩:=h
     case inr =>
      have HR:=hid (show insertM en S=.error er from HE3.out.trans (bind_error h4))
      clear h4
      go_wp2_with fail
      refine ⟨rfl,?_⟩
      rw [HPST.out]
      exact ⟨FK.out _ HK4.out,Or.inr ⟨er,HR.out,rfl⟩⟩
     have HS4:=hid (show S4.s=S3.s from (must_state h4).1)
     have HE4:=hid (HE3.out.trans (bind_ok h4))
     have P4:=hid p4
     clear h4 p4
     have HL4:=hid (show S4.s.row.length<=500 by rw [HS4.out,HS3.out];show T3.s.row.length<=500;rw [HT3.out,HS2.out,HS1.out];exact HZ0.out)
     have kp:=jC (QB.out _ HK4.out) 0
     simp only [List.getElem?_toArray,List.getElem?_cons_zero] at kp
     have con:=list_sj (X:=X) (b:=b) (en:=en) (qp:=w.heap.size) (w0:=w) (len:=fun s=>s.row.length) (most:=6) (n:=500) (bt:=w_comma) (st:=valuedT) (one:=rowOne en) (fs:=85) (g:=86)
      (fun t w1 _ _=>valued_any t) (enters_of Tryz.func85 (by kernel_rfl) rfl) (enters_of Tryz.func86 (by kernel_rfl) rfl)
      (fun i T w1 hi hJ=>row1_any hi hJ HB0.out.1) (fun T h hs=>row_start h hs) (by omega) (by omega) HB0.out.2.1 HB0.out.2.2.2 ⟨QB.out _ HK4.out,⟨Y,P4.out,HXY.out.1,HXY.out.2⟩,FK.out _ HK4.out,HL4.out⟩
     go_wp2_with fail
     refine con.mono ?_
     rintro e w5 (⟨S5,h,rfl,hJ⟩|⟨er,h,rfl,hk⟩)
     case inr =>
      have HR:=hid (show insertM en S=.error er from HE4.out.trans (bind_error h))
      have HKX:=hid hk
      clear h hk con kp
      go_wp2_with fail
      refine ⟨rfl,?_⟩
      rw [HPST.out]
      exact ⟨HKX.out,Or.inr ⟨er,HR.out,rfl⟩⟩
     obtain ⟨hq,⟨Y5,hp,hxy,hyq⟩,hk,hl⟩:=hJ
     have HE5:=hid (HE4.out.trans (bind_ok h))
     have HXY:=hid (show (∀ k,X k->Y5 k)/\Y5 w.heap.size from ⟨hxy,hyq⟩)
     have FK:=hid (show ∀ w',Kept Y5 w5 w'->Kept X w w' from fun w' k=>hk.trans (k.weaken fun i _ hx=>hxy i hx))
     have FP:=hid (show ∀ S' w',PAt Y5 b en S' w'->PAt (X) b en S' w' from fun S' w' p=>p.fewer hxy HB0.out.2.2.1)
     have QB:=hid (show ∀ w',Kept Y5 w5 w'->w'.heap[w.heap.size]? = some (.cells #[.pointer (some ⟨b,0,none⟩)] 63 (0,0)) from fun w' k=>(k.block _ hyq (jB hq)).trans hq)
     have NB:=hid (show ¬ Y5 b from hp.nb)
     have HK5:=hid (Kept.refl Y5 w5)
     have P5:=hid hp
     have HLST:=hid h
     clear h hp hk hl hq hxy hyq con kp
     have kp:=jC (QB.out _ HK5.out) 0
     simp only [List.getElem?_toArray,List.getElem?_cons_zero] at kp
     have con:=must_any (P5.out.below ((b0R).alloc (jR _) (.cells #[.string w_rp] 9))) (words_at w5 [w_rp] (by simp)) (fun k hk=>by have:=P5.out.lt_box;omega)
     go_wp2_with fail
     refine con.mono ?_
     rintro e w6 ⟨g,h⟩
     have HK6:=hid (HK5.out.leaf ((World.grownBy_alloc w5 (.cells #[.string w_rp] 9) (some b)).trans g.g) NB.out)
     clear con g kp
     obtain ⟨S6,h6,rfl,p6⟩|⟨er,h6,rfl⟩:=h
     case inr =>
      have HR:=hid (show insertM en S=.error er from HE5.out.trans h6)
      clear h6
      go_wp2_with fail
      refine ⟨rfl,?_⟩
      rw [HPST.out]
      exact ⟨FK.out _ HK6.out,Or.inr ⟨er,HR.out,rfl⟩⟩
     have HS6:=hid (show S6.s=S5.s from (must_state h6).1)
     have HE6:=hid (HE5.out.trans h6)
     have P6:=hid p6
     clear h6 p6
     go_wp2_with fail
     go_end0
     rw [HPST.out]
     exact ⟨FK.out _ HK6.out,Or.inl ⟨_,HE6.out,rfl,FP.out _ _ P6.out⟩⟩
end
section
open Go.RowKit
theorem col_start {en:Nat} {S:PS} (h:namedT (nowT en S)=false):∃ er,colOne en S=.error er:=by
 obtain ⟨er,he⟩:=named_start h
 exact ⟨er,(congrFun (colOne_eq en) S).trans (bind_error he)⟩
theorem create_any {X:Nat->Prop} {b en:Nat} {S:PS} {w:World} (h:PAt X b en S w) (hz:S.s.cols.length<=500) :
 Calls Tryz.prog 38 #[.pointer (some ⟨b,0,none⟩)] w fun e w'=>StepU X b en w (createM en S) e w':=by
 have hmf:=hmf
 obtain ⟨Pst,hPst⟩:∃ Pst,Pst=StepU X b en w (createM en S):=⟨_,rfl⟩
 have HPST:=hid hPst
 rw [<- hPst]
 have HB0:=hid (show b<w.heap.size/\w.heap.size ≠ b/\(∀ k,k<b->X k)/\¬ X b from ⟨h.lt_box,fun e=>by have:=h.lt_box;omega,h.old,h.nb⟩)
 have HZ0:=hid hz
 clear hz
 obtain ⟨w1,hw1⟩:∃ W,w.alloc (.cells #[.pointer (some ⟨b,0,none⟩)] 63)=W:=⟨_,rfl⟩
 have bB:Below w.heap.size w w1:=by rw [<- hw1];exact (b0R).alloc (jR _) _
 have hqb:w1.heap[w.heap.size]? = some (.cells #[.pointer (some ⟨b,0,none⟩)] 63 (0,0)):=by rw [<- hw1];exact heap_alloc_new _ _
 obtain ⟨Y,hY⟩:∃ Y:Nat->Prop,Y=fun k=>X k \/ (w.heap.size<=k/\k<w1.heap.size):=⟨_,rfl⟩
 have hp:PAt Y b en S w1:=by rw [hY];exact h.more bB (fun _ h=>Or.inl h) (fun _ h=>h)
 have hyq:Y w.heap.size:=by rw [hY];exact Or.inr ⟨jR _,jB hqb⟩
 have hxy:∀ k,X k->Y k:=by rw [hY];exact fun k hk=>Or.inl hk
 have HXY:=hid (show (∀ k,X k->Y k)/\Y w.heap.size from ⟨hxy,hyq⟩)
 have FK:=hid (show ∀ w',Kept Y w1 w'->Kept X w w' from fun w' k=>(Below.kept bB X).trans (k.weaken fun i _ hx=>hxy i hx))
 have FP:=hid (show ∀ S' w',PAt Y b en S' w'->PAt X b en S' w' from fun S' w' p=>p.fewer hxy h.old)
 have QB:=hid (show ∀ w',Kept Y w1 w'->w'.heap[w.heap.size]? = some (.cells #[.pointer (some ⟨b,0,none⟩)] 63 (0,0)) from fun w' k=>(k.block _ hyq (jB hqb)).trans hqb)
 have NB:=hid (show ¬ Y b from hp.nb)
 obtain ⟨S1,hS1⟩:∃ x,x=S:=⟨_,rfl⟩
 have HK1:=hid (Kept.refl Y w1)
 have P1:=hid (show PAt Y b en S1 w1 by rw [hS1];exact hp)
 have HE1:=hid ((congrArg (createM en) hS1.symm).trans (congrFun (create_eq en) S1))
 have HS1:=hid hS1
 clear h hPst bB hqb hY hp hyq hxy hS1
 go_enter Tryz.func38,Tryz.ntmps38
 go_upto_region 1 with (fail)
 clear hw1
 have kp:=jC (QB.out _ HK1.out) 0
 simp only [List.getElem?_toArray,List.getElem?_cons_zero] at kp
 have con:=may_any (P1.out.below ((b0R).alloc (jR _) (.cells #[.string w_table] 9))) (words_at w1 [w_table] (by simp))
 go_wp2_with fail
 refine con.mono ?_
 rintro e w2 ⟨g,h⟩
 have HK2:=hid (HK1.out.leaf ((World.grownBy_alloc w1 (.cells #[.string w_table] 9) (some b)).trans g.g) NB.out)
 clear con g kp
 cases hi:isB [w_table] S1.l with
 | true =>
  rw [may_hit hi] at h
  obtain ⟨_,_,h,rfl,p2⟩|⟨_,h,_⟩:=h
  rotate_left
  · cases h
  cases h
  have P2:=hid p2
  obtain ⟨S2,hS2⟩:∃ T,T=({ S1 with l:=S1.l.drop [w_table].length }:PS):=⟨_,rfl⟩
  have HE2:=hid ((HE1.out.trans (bind_ok (may_hit hi))).trans (congrFun (if_pos rfl) _))
  rw [<- hS2] at P2 HE2
  have HS2:=hid (show S2.s=S1.s by rw [hS2])
  clear p2 hS2 hi
  have HEN:=hid (show ∀ args w,(callFunc 79 args).run Tryz.prog w=.ok (.enter 79 args) w from enters_of Tryz.func79 (by kernel_rfl) rfl)
  go_upto_region 2 with (fail)
  cases hn:nameM en S2 with
  | error er =>
   have HR:=hid (show createM en S=.error er from HE2.out.trans (bind_error hn))
   have HN:=hid hn
   clear hn
   apply wp_region_dies [2,0,1] 3 (Below w2.heap.size w2) (fun e w'=>e=trouble er/\Kept Y w1 w')
   case hq =>
    intro z1 hz1
    have ne:Nonempty (Wld (Below z1.heap.size z1)):=⟨⟨z1,Below.refl _ _⟩⟩
    have c0:=fun x:Wld (Below z1.heap.size z1)=>jC (QB.out x.val ((HK2.out.trans (Below.kept hz1 Y)).trans (Below.kept x.good Y))) 0
    simp only [List.getElem?_toArray,List.getElem?_cons_zero] at c0
    simp only [pickOps,List.getElem?_cons_zero,List.getElem?_cons_succ]
    apply quiet_hide
    intro KE hKE
    repeat (go_big_quiet_step (fail))
    refine wpQuiet_nil ?_
    exact hKE _ rfl
   case hm=>kernel_rfl
   case hB=>kernel_rfl
   case hl=>decide
   case hI=>exact fun z1 z2 h b=>h.trans (b.mono h.size)
   case hw=>exact Below.drew b0R
   case ho=>rfl
   case hwant=>kernel_rfl
   case hd =>
    intro z1 hz1
    refine dies_call (args:=#[.pointer (some ⟨b,0,none⟩)]) (run_call_func rfl (by kernel_rfl) HEN.out) ((name_any (P2.out.below hz1)).mono ?_)
    rintro e z2 ⟨g2,⟨_,_,h2,_⟩|⟨er',h2,rfl⟩⟩
    · rw [HN.out] at h2;cases h2
    · rw [HN.out] at h2
      cases h2
      exact ⟨⟨_,rfl⟩,rfl,(HK2.out.trans (Below.kept hz1 Y)).leaf g2.g NB.out⟩
   case hQ =>
    rintro a' w' ch hd ⟨h1,h2⟩
    refine ⟨hd,?_⟩
    rw [HPST.out]
    exact ⟨FK.out _ h2,Or.inr ⟨er,HR.out,h1⟩⟩
  | ok q =>
   obtain ⟨nm,T3⟩:=q
   have HT3:=hid (show T3.s=S2.s from by rw [name_keeps hn])
   have HE3:=hid (HE2.out.trans (bind_ok hn))
   have HN:=hid hn
   clear hn
   refine wp_region_loose2 [([2,0,1],3),([4,5,6],7),([8,9,10],11)] (fun w'=>w'.heap[w.heap.size]? = some (.cells #[.pointer (some ⟨b,0,none⟩)] 63 (0,0))) (Below w2.heap.size w2) (by kernel_rfl) (by kernel_rfl) (by kernel_rfl) (fun z1 z2 h b=>h.trans (b.mono h.size)) (Below.drew b0R) ?_
   apply wpSegs_call (fun w'=>w'.heap[w.heap.size]? = some (.cells #[.pointer (some ⟨b,0,none⟩)] 63 (0,0))) (fun u w'=>u=.string nm/\PAt Y b en T3 w'/\Kept Y w1 w') (fun _ h=>h) (fun w' h=>QB.out w' (HK2.out.trans (Below.kept h Y)))
   case hq =>
    intro z1 hz1
    have ne:Nonempty (Wld (Below z1.heap.size z1)):=⟨⟨z1,Below.refl _ _⟩⟩
    have c0:=fun x:Wld (Below z1.heap.size z1)=>jC ((x.good.block _ (jB hz1)).trans hz1) 0
    simp only [List.getElem?_toArray,List.getElem?_cons_zero] at c0
    simp only [pickOps,List.getElem?_cons_zero,List.getElem?_cons_succ]
    apply quiet_hide
    intro KE hKE
    repeat (go_big_quiet_step (fail))
    refine wpQuiet_nil ?_
    exact hKE _ rfl
   case ho=>rfl
   case hw=>kernel_rfl
   case hD=>exact fun u z1 z2 h hb=>⟨h.1,h.2.1.below hb,h.2.2.trans (Below.kept hb Y)⟩
   case hDJ=>exact fun _ u w' h=>QB.out w' h.2.2
   case hlo =>
    intro z1 hz1
    refine loose_call (args:=#[.pointer (some ⟨b,0,none⟩)]) (run_call_func rfl (by kernel_rfl) HEN.out) ((name_any (P2.out.below hz1)).mono ?_)
    rintro e z2 ⟨g2,⟨a,S',h2,rfl,p2⟩|⟨er',h2,rfl⟩⟩
    · rw [HN.out] at h2
      cases h2
      exact ⟨_,rfl,rfl,p2,(HK2.out.trans (Below.kept hz1 Y)).leaf g2.g NB.out⟩
    · rw [HN.out] at h2;cases h2
   case hrest =>
    rintro u z1 ⟨rfl,-,-⟩
    simp only [Act.put,List.setIfInBounds_toArray,List.set_cons_succ,List.set_cons_zero]
    apply wpSegs_cons (fun w'=>w'.heap[w.heap.size]? = some (.cells #[.pointer (some ⟨b,0,none⟩)] 63 (0,0))) (fun _ w'=>PAt Y b en ({ T3 with s:={ T3.s with kind:=1 } }:PS) w'/\Kept Y w1 w') (fun _ h=>h) (fun w' h=>QB.out w' h.2.2)
    case hq =>
     intro z1 hz1
     have ne:Nonempty (Wld (Below z1.heap.size z1)):=⟨⟨z1,Below.refl _ _⟩⟩
     simp only [pickOps,List.getElem?_cons_zero,List.getElem?_cons_succ]
     apply quiet_hide
     intro KE hKE
     repeat (go_big_quiet_step (fail))
     refine wpQuiet_nil ?_
     exact hKE _ rfl
    case hDJ=>exact fun _ u w' h=>QB.out w' h.2
    case ho=>rfl
    case hop=>rfl
    case hw=>kernel_rfl
    case hD=>exact fun u z1 z2 h hb=>⟨h.1.below hb,h.2.trans (Below.kept hb Y)⟩
    case hlo =>
     rintro wa ⟨_,hp,hk⟩
     obtain ⟨_,_,L,hbx,_,_⟩:=hp.open
     have cx:=jC hbx 2
     have fx:=free_of hbx 2
     simp only [boxC,List.getElem?_toArray,List.getElem?_cons_zero,List.getElem?_cons_succ] at cx
     have HP:=hid hp
     have HK:=hid hk
     clear hbx hp hk
     go_wp2_with fail
     have st:=HP.out.store (j:=2) (v:=.int .i64 1) (s':={ T3.s with kind:=1 }) (fun _ _=>rfl) ⟨rfl,rfl,rfl,rfl,rfl,rfl⟩
     exact ⟨st.1,HK.out.leaf st.2 NB.out⟩
    case hrest =>
     rintro _ z1 -
     simp only [Act.put,List.setIfInBounds_toArray,List.set_cons_succ,List.set_cons_zero]
     apply wpSegs_cons (fun w'=>w'.heap[w.heap.size]? = some (.cells #[.pointer (some ⟨b,0,none⟩)] 63 (0,0))) (fun _ w'=>PAt Y b en ({ T3 with s:={ T3.s with kind:=1,table:=nm } }:PS) w'/\Kept Y w1 w') (fun _ h=>h) (fun w' h=>QB.out w' h.2)
     case hq =>
      intro z1 hz1
      have ne:Nonempty (Wld (Below z1.heap.size z1)):=⟨⟨z1,Below.refl _ _⟩⟩
      simp only [pickOps,List.getElem?_cons_zero,List.getElem?_cons_succ]
      apply quiet_hide
      intro KE hKE
      repeat (go_big_quiet_step (fail))
      refine wpQuiet_nil ?_
      exact hKE _ rfl
     case hDJ=>exact fun _ u w' h=>QB.out w' h.2
     case ho=>rfl
     case hop=>rfl
     case hw=>kernel_rfl
     case hD=>exact fun u z1 z2 h hb=>⟨h.1.below hb,h.2.trans (Below.kept hb Y)⟩
     case hlo =>
      rintro wa ⟨hp,hk⟩
      obtain ⟨_,_,L,hbx,_,_⟩:=hp.open
      have cx:=jC hbx 3
      have fx:=free_of hbx 3
      simp only [boxC,List.getElem?_toArray,List.getElem?_cons_zero,List.getElem?_cons_succ] at cx
      have HP:=hid hp
      have HK:=hid hk
      clear hbx hp hk
      go_wp2_with fail
      have st:=HP.out.store (j:=3) (v:=.string nm) (s':={ T3.s with kind:=1,table:=nm }) (fun _ _=>rfl) ⟨rfl,rfl,rfl,rfl,rfl,rfl⟩
      exact ⟨st.1,HK.out.leaf st.2 NB.out⟩
     case hrest =>
      rintro u9 w9x h9x
      refine wpSegs_nil fun w3 h9=>?_
      obtain ⟨S3,hS3⟩:∃ T,T=({ T3 with s:={ T3.s with kind:=1,table:=nm } }:PS):=⟨_,rfl⟩
      have P3:=hid (show PAt Y b en S3 w3 by rw [hS3];exact h9.1)
      have HK3:=hid (show Kept Y w1 w3 from h9.2)
      have HE3:=hid (show createM en S=_ from HE3.out.trans (bind_ok (a:=()) (S':=({ T3 with s:={ T3.s with kind:=1,table:=nm } }:PS)) rfl))
      rw [<- hS3] at HE3
      have HS3:=hid hS3
      clear h9 h9x hS3 HN HEN
      have kp:=jC (QB.out _ HK3.out) 0
      simp only [List.getElem?_toArray,List.getElem?_cons_zero] at kp
      have con:=must_any (P3.out.below ((b0R).alloc (jR _) (.cells #[.string w_lp] 9))) (words_at w3 [w_lp] (by simp)) (fun k hk=>by have:=P3.out.lt_box;omega)
      go_wp2_with fail
      refine con.mono ?_
      rintro e w4 ⟨g,h⟩
      have HK4:=hid (HK3.out.leaf ((World.grownBy_alloc w3 (.cells #[.string w_lp] 9) (some b)).trans g.g) NB.out)
      clear con g kp
      obtain ⟨S4,h4,rfl,p4⟩|⟨er,h4,rfl⟩:=h
      case inr =>
       have HR:=hid (show createM en S=.error er from HE3.out.trans (bind_error h4))
       clear h4
       go_wp2_with fail
       refine ⟨rfl,?_⟩
       rw [HPST.out]
       exact ⟨FK.out _ HK4.out,Or.inr ⟨er,HR.out,rfl⟩⟩
      have HS4:=hid (show S4.s=S3.s from (must_state h4).1)
      have HE4:=hid (HE3.out.trans (bind_ok h4))
      have P4:=hid p4
      clear h4 p4
      have HL4:=hid (show S4.s.cols.length<=500 by rw [HS4.out,HS3.out];show T3.s.cols.length<=500;rw [HT3.out,HS2.out,HS1.out];exact HZ0.out)
      have kp:=jC (QB.out _ HK4.out) 0
      simp only [List.getElem?_toArray,List.getElem?_cons_zero] at kp
      have con:=list_sj (X:=X) (b:=b) (en:=en) (qp:=w.heap.size) (w0:=w) (len:=fun s=>s.cols.length) (most:=6) (n:=500) (bt:=w_comma) (st:=namedT) (one:=colOne en) (fs:=82) (g:=83)
       (fun t w1 he hs=>named_any t he hs) (enters_of Tryz.func82 (by kernel_rfl) rfl) (enters_of Tryz.func83 (by kernel_rfl) rfl)
       (fun i T w1 hi hJ=>col1_any hi hJ HB0.out.1) (fun T _ hs=>col_start hs) (by omega) (by omega) HB0.out.2.1 HB0.out.2.2.2 ⟨QB.out _ HK4.out,⟨Y,P4.out,HXY.out.1,HXY.out.2⟩,FK.out _ HK4.out,HL4.out⟩
      go_wp2_with fail
      refine con.mono ?_
      rintro e w5 (⟨S5,h,rfl,hJ⟩|⟨er,h,rfl,hk⟩)
      case inr =>
       have HR:=hid (show createM en S=.error er from HE4.out.trans (bind_error h))
       have HKX:=hid hk
       clear h hk con kp
       go_wp2_with fail
       refine ⟨rfl,?_⟩
       rw [HPST.out]
       exact ⟨HKX.out,Or.inr ⟨er,HR.out,rfl⟩⟩
      obtain ⟨hq,⟨Y5,hp,hxy,hyq⟩,hk,hl⟩:=hJ
      have HE5:=hid (HE4.out.trans (bind_ok h))
      have HXY:=hid (show (∀ k,X k->Y5 k)/\Y5 w.heap.size from ⟨hxy,hyq⟩)
      have FK:=hid (show ∀ w',Kept Y5 w5 w'->Kept X w w' from fun w' k=>hk.trans (k.weaken fun i _ hx=>hxy i hx))
      have FP:=hid (show ∀ S' w',PAt Y5 b en S' w'->PAt (X) b en S' w' from fun S' w' p=>p.fewer hxy HB0.out.2.2.1)
      have QB:=hid (show ∀ w',Kept Y5 w5 w'->w'.heap[w.heap.size]? = some (.cells #[.pointer (some ⟨b,0,none⟩)] 63 (0,0)) from fun w' k=>(k.block _ hyq (jB hq)).trans hq)
      have NB:=hid (show ¬ Y5 b from hp.nb)
      have HK5:=hid (Kept.refl Y5 w5)
      have P5:=hid hp
      have HLST:=hid h
      clear h hp hk hl hq hxy hyq con kp
      have kp:=jC (QB.out _ HK5.out) 0
      simp only [List.getElem?_toArray,List.getElem?_cons_zero] at kp
      have con:=must_any (P5.out.below ((b0R).alloc (jR _) (.cells #[.string w_rp] 9))) (words_at w5 [w_rp] (by simp)) (fun k hk=>by have:=P5.out.lt_box;omega)
      go_wp2_with fail
      refine con.mono ?_
      rintro e w6 ⟨g,h⟩
      have HK6:=hid (HK5.out.leaf ((World.grownBy_alloc w5 (.cells #[.string w_rp] 9) (some b)).trans g.g) NB.out)
      clear con g kp
      obtain ⟨S6,h6,rfl,p6⟩|⟨er,h6,rfl⟩:=h
      case inr =>
       have HR:=hid (show createM en S=.error er from HE5.out.trans h6)
       clear h6
       go_wp2_with fail
       refine ⟨rfl,?_⟩
       rw [HPST.out]
       exact ⟨FK.out _ HK6.out,Or.inr ⟨er,HR.out,rfl⟩⟩
      have HS6:=hid (show S6.s=S5.s from (must_state h6).1)
      have HE6:=hid (HE5.out.trans h6)
      have P6:=hid p6
      clear h6 p6
      go_wp2_with fail
      refine bodyPost_ret (v:=.tuple #[]) (results_none rfl _ _ _) rfl ?_
      rw [HPST.out]
      exact ⟨FK.out _ HK6.out,Or.inl ⟨_,HE6.out,rfl,FP.out _ _ P6.out⟩⟩
 | false =>
  rw [may_miss hi] at h
  obtain ⟨_,_,h,rfl,p2⟩|⟨_,h,_⟩:=h
  rotate_left
  · cases h
  cases h
  have P2:=hid p2
  obtain ⟨S2,hS2⟩:∃ T,T=(S1:PS):=⟨_,rfl⟩
  have HE2:=hid ((HE1.out.trans (bind_ok (may_miss hi))).trans (congrFun (if_neg Bool.false_ne_true) _))
  rw [<- hS2] at P2 HE2
  have HS2:=hid (show S2.s=S1.s by rw [hS2])
  clear p2 hS2 hi
  have kp:=jC (QB.out _ HK2.out) 0
  simp only [List.getElem?_toArray,List.getElem?_cons_zero] at kp
  have con:=must_any (P2.out.below ((b0R).alloc (jR _) (.cells #[.string w_index] 9))) (words_at w2 [w_index] (by simp)) (fun k hk=>by have:=P2.out.lt_box;omega)
  go_wp2_with fail
  refine con.mono ?_
  rintro e w3 ⟨g,h⟩
  have HK3:=hid (HK2.out.leaf ((World.grownBy_alloc w2 (.cells #[.string w_index] 9) (some b)).trans g.g) NB.out)
  clear con g kp
  obtain ⟨S3,h3,rfl,p3⟩|⟨er,h3,rfl⟩:=h
  case inr =>
   have HR:=hid (show createM en S=.error er from HE2.out.trans (bind_error h3))
   clear h3
   go_wp2_with fail
   refine ⟨rfl,?_⟩
   rw [HPST.out]
   exact ⟨FK.out _ HK3.out,Or.inr ⟨er,HR.out,rfl⟩⟩
  have HS3:=hid (show S3.s=S2.s from (must_state h3).1)
  have HE3:=hid (HE2.out.trans (bind_ok h3))
  have P3:=hid p3
  clear h3 p3
  have HEN:=hid (show ∀ args w,(callFunc 79 args).run Tryz.prog w=.ok (.enter 79 args) w from enters_of Tryz.func79 (by kernel_rfl) rfl)
  go_upto_region 7 with (fail)
  cases hn:nameM en S3 with
  | error er =>
   have HR:=hid (show createM en S=.error er from HE3.out.trans (bind_error hn))
   have HN:=hid hn
   clear hn
   apply wp_region_dies [2,0,1] 3 (Below w3.heap.size w3) (fun e w'=>e=trouble er/\Kept Y w1 w')
   case hq =>
    intro z1 hz1
    have ne:Nonempty (Wld (Below z1.heap.size z1)):=⟨⟨z1,Below.refl _ _⟩⟩
    have c0:=fun x:Wld (Below z1.heap.size z1)=>jC (QB.out x.val ((HK3.out.trans (Below.kept hz1 Y)).trans (Below.kept x.good Y))) 0
    simp only [List.getElem?_toArray,List.getElem?_cons_zero] at c0
    simp only [pickOps,List.getElem?_cons_zero,List.getElem?_cons_succ]
    apply quiet_hide
    intro KE hKE
    repeat (go_big_quiet_step (fail))
    refine wpQuiet_nil ?_
    exact hKE _ rfl
   case hm=>kernel_rfl
   case hB=>kernel_rfl
   case hl=>decide
   case hI=>exact fun z1 z2 h b=>h.trans (b.mono h.size)
   case hw=>exact Below.drew b0R
   case ho=>rfl
   case hwant=>kernel_rfl
   case hd =>
    intro z1 hz1
    refine dies_call (args:=#[.pointer (some ⟨b,0,none⟩)]) (run_call_func rfl (by kernel_rfl) HEN.out) ((name_any (P3.out.below hz1)).mono ?_)
    rintro e z2 ⟨g2,⟨_,_,h2,_⟩|⟨er',h2,rfl⟩⟩
    · rw [HN.out] at h2;cases h2
    · rw [HN.out] at h2
      cases h2
      exact ⟨⟨_,rfl⟩,rfl,(HK3.out.trans (Below.kept hz1 Y)).leaf g2.g NB.out⟩
   case hQ =>
    rintro a' w' ch hd ⟨h1,h2⟩
    refine ⟨hd,?_⟩
    rw [HPST.out]
    exact ⟨FK.out _ h2,Or.inr ⟨er,HR.out,h1⟩⟩
  | ok q =>
   obtain ⟨nn,T4⟩:=q
   have HT4:=hid (show T4.s=S3.s from by rw [name_keeps hn])
   have HE4:=hid (HE3.out.trans (bind_ok hn))
   have HN:=hid hn
   clear hn
   refine wp_region_loose2 [([2,0,1],3),([4,5,6],7),([8,9,10],11)] (fun w'=>w'.heap[w.heap.size]? = some (.cells #[.pointer (some ⟨b,0,none⟩)] 63 (0,0))) (Below w3.heap.size w3) (by kernel_rfl) (by kernel_rfl) (by kernel_rfl) (fun z1 z2 h b=>h.trans (b.mono h.size)) (Below.drew b0R) ?_
   apply wpSegs_call (fun w'=>w'.heap[w.heap.size]? = some (.cells #[.pointer (some ⟨b,0,none⟩)] 63 (0,0))) (fun u w'=>u=.string nn/\PAt Y b en T4 w'/\Kept Y w1 w') (fun _ h=>h) (fun w' h=>QB.out w' (HK3.out.trans (Below.kept h Y)))
   case hq =>
    intro z1 hz1
    have ne:Nonempty (Wld (Below z1.heap.size z1)):=⟨⟨z1,Below.refl _ _⟩⟩
    have c0:=fun x:Wld (Below z1.heap.size z1)=>jC ((x.good.block _ (jB hz1)).trans hz1) 0
    simp only [List.getElem?_toArray,List.getElem?_cons_zero] at c0
    simp only [pickOps,List.getElem?_cons_zero,List.getElem?_cons_succ]
    apply quiet_hide
    intro KE hKE
    repeat (go_big_quiet_step (fail))
    refine wpQuiet_nil ?_
    exact hKE _ rfl
   case ho=>rfl
   case hw=>kernel_rfl
   case hD=>exact fun u z1 z2 h hb=>⟨h.1,h.2.1.below hb,h.2.2.trans (Below.kept hb Y)⟩
   case hDJ=>exact fun _ u w' h=>QB.out w' h.2.2
   case hlo =>
    intro z1 hz1
    refine loose_call (args:=#[.pointer (some ⟨b,0,none⟩)]) (run_call_func rfl (by kernel_rfl) HEN.out) ((name_any (P3.out.below hz1)).mono ?_)
    rintro e z2 ⟨g2,⟨a,S',h2,rfl,p2⟩|⟨er',h2,rfl⟩⟩
    · rw [HN.out] at h2
      cases h2
      exact ⟨_,rfl,rfl,p2,(HK3.out.trans (Below.kept hz1 Y)).leaf g2.g NB.out⟩
    · rw [HN.out] at h2;cases h2
   case hrest =>
    rintro u z1 ⟨rfl,-,-⟩
    simp only [Act.put,List.setIfInBounds_toArray,List.set_cons_succ,List.set_cons_zero]
    apply wpSegs_cons (fun w'=>w'.heap[w.heap.size]? = some (.cells #[.pointer (some ⟨b,0,none⟩)] 63 (0,0))) (fun _ w'=>PAt Y b en ({ T4 with s:={ T4.s with kind:=2 } }:PS) w'/\Kept Y w1 w') (fun _ h=>h) (fun w' h=>QB.out w' h.2.2)
    case hq =>
     intro z1 hz1
     have ne:Nonempty (Wld (Below z1.heap.size z1)):=⟨⟨z1,Below.refl _ _⟩⟩
     simp only [pickOps,List.getElem?_cons_zero,List.getElem?_cons_succ]
     apply quiet_hide
     intro KE hKE
     repeat (go_big_quiet_step (fail))
     refine wpQuiet_nil ?_
     exact hKE _ rfl
    case hDJ=>exact fun _ u w' h=>QB.out w' h.2
    case ho=>rfl
    case hop=>rfl
    case hw=>kernel_rfl
    case hD=>exact fun u z1 z2 h hb=>⟨h.1.below hb,h.2.trans (Below.kept hb Y)⟩
    case hlo =>
     rintro wa ⟨_,hp,hk⟩
     obtain ⟨_,_,L,hbx,_,_⟩:=hp.open
     have cx:=jC hbx 2
     have fx:=free_of hbx 2
     simp only [boxC,List.getElem?_toArray,List.getElem?_cons_zero,List.getElem?_cons_succ] at cx
     have HP:=hid hp
     have HK:=hid hk
     clear hbx hp hk
     go_wp2_with fail
     have st:=HP.out.store (j:=2) (v:=.int .i64 2) (s':={ T4.s with kind:=2 }) (fun _ _=>rfl) ⟨rfl,rfl,rfl,rfl,rfl,rfl⟩
     exact ⟨st.1,HK.out.leaf st.2 NB.out⟩
    case hrest =>
     rintro _ z1 -
     simp only [Act.put,List.setIfInBounds_toArray,List.set_cons_succ,List.set_cons_zero]
     apply wpSegs_cons (fun w'=>w'.heap[w.heap.size]? = some (.cells #[.pointer (some ⟨b,0,none⟩)] 63 (0,0))) (fun _ w'=>PAt Y b en ({ T4 with s:={ T4.s with kind:=2,name:=nn } }:PS) w'/\Kept Y w1 w') (fun _ h=>h) (fun w' h=>QB.out w' h.2)
     case hq =>
      intro z1 hz1
      have ne:Nonempty (Wld (Below z1.heap.size z1)):=⟨⟨z1,Below.refl _ _⟩⟩
      simp only [pickOps,List.getElem?_cons_zero,List.getElem?_cons_succ]
      apply quiet_hide
      intro KE hKE
      repeat (go_big_quiet_step (fail))
      refine wpQuiet_nil ?_
      exact hKE _ rfl
     case hDJ=>exact fun _ u w' h=>QB.out w' h.2
     case ho=>rfl
     case hop=>rfl
     case hw=>kernel_rfl
     case hD=>exact fun u z1 z2 h hb=>⟨h.1.below hb,h.2.trans (Below.kept hb Y)⟩
     case hlo =>
      rintro wa ⟨hp,hk⟩
      obtain ⟨_,_,L,hbx,_,_⟩:=hp.open
      have cx:=jC hbx 4
      have fx:=free_of hbx 4
      simp only [boxC,List.getElem?_toArray,List.getElem?_cons_zero,List.getElem?_cons_succ] at cx
      have HP:=hid hp
      have HK:=hid hk
      clear hbx hp hk
      go_wp2_with fail
      have st:=HP.out.store (j:=4) (v:=.string nn) (s':={ T4.s with kind:=2,name:=nn }) (fun _ _=>rfl) ⟨rfl,rfl,rfl,rfl,rfl,rfl⟩
      exact ⟨st.1,HK.out.leaf st.2 NB.out⟩
     case hrest =>
      rintro u9 w9x h9x
      refine wpSegs_nil fun w4 h9=>?_
      obtain ⟨S4,hS4⟩:∃ T,T=({ T4 with s:={ T4.s with kind:=2,name:=nn } }:PS):=⟨_,rfl⟩
      have P4:=hid (show PAt Y b en S4 w4 by rw [hS4];exact h9.1)
      have HK4:=hid (show Kept Y w1 w4 from h9.2)
      have HE4:=hid (show createM en S=_ from HE4.out.trans (bind_ok (a:=()) (S':=({ T4 with s:={ T4.s with kind:=2,name:=nn } }:PS)) rfl))
      rw [<- hS4] at HE4
      have HS4:=hid hS4
      clear h9 h9x hS4 HN HEN
      have kp:=jC (QB.out _ HK4.out) 0
      simp only [List.getElem?_toArray,List.getElem?_cons_zero] at kp
      have con:=must_any (P4.out.below ((b0R).alloc (jR _) (.cells #[.string w_on] 9))) (words_at w4 [w_on] (by simp)) (fun k hk=>by have:=P4.out.lt_box;omega)
      go_wp2_with fail
      refine con.mono ?_
      rintro e w5 ⟨g,h⟩
      have HK5:=hid (HK4.out.leaf ((World.grownBy_alloc w4 (.cells #[.string w_on] 9) (some b)).trans g.g) NB.out)
      clear con g kp
      obtain ⟨S5,h5,rfl,p5⟩|⟨er,h5,rfl⟩:=h
      case inr =>
       have HR:=hid (show createM en S=.error er from HE4.out.trans (bind_error h5))
       clear h5
       go_wp2_with fail
       refine ⟨rfl,?_⟩
       rw [HPST.out]
       exact ⟨FK.out _ HK5.out,Or.inr ⟨er,HR.out,rfl⟩⟩
      have HS5:=hid (show S5.s=S4.s from (must_state h5).1)
      have HE5:=hid (HE4.out.trans (bind_ok h5))
      have P5:=hid p5
      clear h5 p5
      have HEN:=hid (show ∀ args w,(callFunc 79 args).run Tryz.prog w=.ok (.enter 79 args) w from enters_of Tryz.func79 (by kernel_rfl) rfl)
      go_upto_region 9 with (fail)
      cases hn:nameM en S5 with
      | error er =>
       have HR:=hid (show createM en S=.error er from HE5.out.trans (bind_error hn))
       have HN:=hid hn
       clear hn
       apply wp_region_dies [1,0] 2 (Below w5.heap.size w5) (fun e w'=>e=trouble er/\Kept Y w1 w')
       case hq =>
        intro z1 hz1
        have ne:Nonempty (Wld (Below z1.heap.size z1)):=⟨⟨z1,Below.refl _ _⟩⟩
        have c0:=fun x:Wld (Below z1.heap.size z1)=>jC (QB.out x.val ((HK5.out.trans (Below.kept hz1 Y)).trans (Below.kept x.good Y))) 0
        simp only [List.getElem?_toArray,List.getElem?_cons_zero] at c0
        simp only [pickOps,List.getElem?_cons_zero,List.getElem?_cons_succ]
        apply quiet_hide
        intro KE hKE
        repeat (go_big_quiet_step (fail))
        refine wpQuiet_nil ?_
        exact hKE _ rfl
       case hm=>kernel_rfl
       case hB=>kernel_rfl
       case hl=>decide
       case hI=>exact fun z1 z2 h b=>h.trans (b.mono h.size)
       case hw=>exact Below.drew b0R
       case ho=>rfl
       case hwant=>kernel_rfl
       case hd =>
        intro z1 hz1
        refine dies_call (args:=#[.pointer (some ⟨b,0,none⟩)]) (run_call_func rfl (by kernel_rfl) HEN.out) ((name_any (P5.out.below hz1)).mono ?_)
        rintro e z2 ⟨g2,⟨_,_,h2,_⟩|⟨er',h2,rfl⟩⟩
        · rw [HN.out] at h2;cases h2
        · rw [HN.out] at h2
          cases h2
          exact ⟨⟨_,rfl⟩,rfl,(HK5.out.trans (Below.kept hz1 Y)).leaf g2.g NB.out⟩
       case hQ =>
        rintro a' w' ch hd ⟨h1,h2⟩
        refine ⟨hd,?_⟩
        rw [HPST.out]
        exact ⟨FK.out _ h2,Or.inr ⟨er,HR.out,h1⟩⟩
      | ok q =>
       obtain ⟨tt,T6⟩:=q
       have HT6:=hid (show T6.s=S5.s from by rw [name_keeps hn])
       have HE6:=hid (HE5.out.trans (bind_ok hn))
       have HN:=hid hn
       clear hn
       refine wp_region_loose2 [([1,0],2),([3,4,5],6)] (fun w'=>w'.heap[w.heap.size]? = some (.cells #[.pointer (some ⟨b,0,none⟩)] 63 (0,0))) (Below w5.heap.size w5) (by kernel_rfl) (by kernel_rfl) (by kernel_rfl) (fun z1 z2 h b=>h.trans (b.mono h.size)) (Below.drew b0R) ?_
       apply wpSegs_call (fun w'=>w'.heap[w.heap.size]? = some (.cells #[.pointer (some ⟨b,0,none⟩)] 63 (0,0))) (fun u w'=>u=.string tt/\PAt Y b en T6 w'/\Kept Y w1 w') (fun _ h=>h) (fun w' h=>QB.out w' (HK5.out.trans (Below.kept h Y)))
       case hq =>
        intro z1 hz1
        have ne:Nonempty (Wld (Below z1.heap.size z1)):=⟨⟨z1,Below.refl _ _⟩⟩
        have c0:=fun x:Wld (Below z1.heap.size z1)=>jC ((x.good.block _ (jB hz1)).trans hz1) 0
        simp only [List.getElem?_toArray,List.getElem?_cons_zero] at c0
        simp only [pickOps,List.getElem?_cons_zero,List.getElem?_cons_succ]
        apply quiet_hide
        intro KE hKE
        repeat (go_big_quiet_step (fail))
        refine wpQuiet_nil ?_
        exact hKE _ rfl
       case ho=>rfl
       case hw=>kernel_rfl
       case hD=>exact fun u z1 z2 h hb=>⟨h.1,h.2.1.below hb,h.2.2.trans (Below.kept hb Y)⟩
       case hDJ=>exact fun _ u w' h=>QB.out w' h.2.2
       case hlo =>
        intro z1 hz1
        refine loose_call (args:=#[.pointer (some ⟨b,0,none⟩)]) (run_call_func rfl (by kernel_rfl) HEN.out) ((name_any (P5.out.below hz1)).mono ?_)
        rintro e z2 ⟨g2,⟨a,S',h2,rfl,p2⟩|⟨er',h2,rfl⟩⟩
        · rw [HN.out] at h2
          cases h2
          exact ⟨_,rfl,rfl,p2,(HK5.out.trans (Below.kept hz1 Y)).leaf g2.g NB.out⟩
        · rw [HN.out] at h2;cases h2
       case hrest =>
        rintro u z1 ⟨rfl,-,-⟩
        simp only [Act.put,List.setIfInBounds_toArray,List.set_cons_succ,List.set_cons_zero]
        apply wpSegs_cons (fun w'=>w'.heap[w.heap.size]? = some (.cells #[.pointer (some ⟨b,0,none⟩)] 63 (0,0))) (fun _ w'=>PAt Y b en ({ T6 with s:={ T6.s with table:=tt } }:PS) w'/\Kept Y w1 w') (fun _ h=>h) (fun w' h=>QB.out w' h.2.2)
        case hq =>
         intro z1 hz1
         have ne:Nonempty (Wld (Below z1.heap.size z1)):=⟨⟨z1,Below.refl _ _⟩⟩
         simp only [pickOps,List.getElem?_cons_zero,List.getElem?_cons_succ]
         apply quiet_hide
         intro KE hKE
         repeat (go_big_quiet_step (fail))
         refine wpQuiet_nil ?_
         exact hKE _ rfl
        case hDJ=>exact fun _ u w' h=>QB.out w' h.2
        case ho=>rfl
        case hop=>rfl
        case hw=>kernel_rfl
        case hD=>exact fun u z1 z2 h hb=>⟨h.1.below hb,h.2.trans (Below.kept hb Y)⟩
        case hlo =>
         rintro wa ⟨_,hp,hk⟩
         obtain ⟨_,_,L,hbx,_,_⟩:=hp.open
         have cx:=jC hbx 3
         have fx:=free_of hbx 3
         simp only [boxC,List.getElem?_toArray,List.getElem?_cons_zero,List.getElem?_cons_succ] at cx
         have HP:=hid hp
         have HK:=hid hk
         clear hbx hp hk
         go_wp2_with fail
         have st:=HP.out.store (j:=3) (v:=.string tt) (s':={ T6.s with table:=tt }) (fun _ _=>rfl) ⟨rfl,rfl,rfl,rfl,rfl,rfl⟩
         exact ⟨st.1,HK.out.leaf st.2 NB.out⟩
        case hrest =>
         rintro u9 w9x h9x
         refine wpSegs_nil fun w6 h9=>?_
         obtain ⟨S6,hS6⟩:∃ T,T=({ T6 with s:={ T6.s with table:=tt } }:PS):=⟨_,rfl⟩
         have P6:=hid (show PAt Y b en S6 w6 by rw [hS6];exact h9.1)
         have HK6:=hid (show Kept Y w1 w6 from h9.2)
         have HE6:=hid (show createM en S=_ from HE6.out.trans (bind_ok (a:=()) (S':=({ T6 with s:={ T6.s with table:=tt } }:PS)) rfl))
         rw [<- hS6] at HE6
         have HS6:=hid hS6
         clear h9 h9x hS6 HN HEN
         have kp:=jC (QB.out _ HK6.out) 0
         simp only [List.getElem?_toArray,List.getElem?_cons_zero] at kp
         have con:=must_any (P6.out.below ((b0R).alloc (jR _) (.cells #[.string w_lp] 9))) (words_at w6 [w_lp] (by simp)) (fun k hk=>by have:=P6.out.lt_box;omega)
         go_wp2_with fail
         refine con.mono ?_
         rintro e w7 ⟨g,h⟩
         have HK7:=hid (HK6.out.leaf ((World.grownBy_alloc w6 (.cells #[.string w_lp] 9) (some b)).trans g.g) NB.out)
         clear con g kp
         obtain ⟨S7,h7,rfl,p7⟩|⟨er,h7,rfl⟩:=h
         case inr =>
          have HR:=hid (show createM en S=.error er from HE6.out.trans (bind_error h7))
          clear h7
          go_wp2_with fail
          refine ⟨rfl,?_⟩
          rw [HPST.out]
          exact ⟨FK.out _ HK7.out,Or.inr ⟨er,HR.out,rfl⟩⟩
         have HS7:=hid (show S7.s=S6.s from (must_state h7).1)
         have HE7:=hid (HE6.out.trans (bind_ok h7))
         have P7:=hid p7
         clear h7 p7
         have HEN:=hid (show ∀ args w,(callFunc 84 args).run Tryz.prog w=.ok (.enter 84 args) w from enters_of Tryz.func84 (by kernel_rfl) rfl)
         go_upto_region 11 with (fail)
         cases hn:columnsM en 6 S7 with
         | error er =>
          have HR:=hid (show createM en S=.error er from HE7.out.trans (bind_error hn))
          have HN:=hid hn
          clear hn
          apply wp_region_dies [1,0] 2 (Below w7.heap.size w7) (fun e w'=>e=trouble er/\Kept Y w1 w')
          case hq =>
           intro z1 hz1
           have ne:Nonempty (Wld (Below z1.heap.size z1)):=⟨⟨z1,Below.refl _ _⟩⟩
           have c0:=fun x:Wld (Below z1.heap.size z1)=>jC (QB.out x.val ((HK7.out.trans (Below.kept hz1 Y)).trans (Below.kept x.good Y))) 0
           simp only [List.getElem?_toArray,List.getElem?_cons_zero] at c0
           simp only [pickOps,List.getElem?_cons_zero,List.getElem?_cons_succ]
           apply quiet_hide
           intro KE hKE
           repeat (go_big_quiet_step (fail))
           refine wpQuiet_nil ?_
           exact hKE _ rfl
          case hm=>kernel_rfl
          case hB=>kernel_rfl
          case hl=>decide
          case hI=>exact fun z1 z2 h b=>h.trans (b.mono h.size)
          case hw=>exact Below.drew b0R
          case ho=>rfl
          case hwant=>kernel_rfl
          case hd =>
           intro z1 hz1
           refine dies_call (args:=#[.pointer (some ⟨b,0,none⟩),.int .i64 6]) (run_call_func rfl (by kernel_rfl) HEN.out) ((columns_any (most:=6) (by omega) (P7.out.below hz1)).mono ?_)
           rintro e z2 ⟨g2,⟨_,_,_,h2,_⟩|⟨er',h2,rfl⟩⟩
           · rw [HN.out] at h2;cases h2
           · rw [HN.out] at h2
             cases h2
             exact ⟨⟨_,rfl⟩,rfl,(HK7.out.trans (Below.kept hz1 Y)).leaf g2 NB.out⟩
          case hQ =>
           rintro a' w' ch hd ⟨h1,h2⟩
           refine ⟨hd,?_⟩
           rw [HPST.out]
           exact ⟨FK.out _ h2,Or.inr ⟨er,HR.out,h1⟩⟩
         | ok q =>
          obtain ⟨Ln,T8⟩:=q
          have HT8:=hid (show T8.s=S7.s from columns_keeps hn)
          have HE8:=hid (HE7.out.trans (bind_ok hn))
          have HN:=hid hn
          clear hn
          refine wp_region_loose2 [([1,0],2),([3,4,5],6)] (fun w'=>w'.heap[w.heap.size]? = some (.cells #[.pointer (some ⟨b,0,none⟩)] 63 (0,0))) (Below w7.heap.size w7) (by kernel_rfl) (by kernel_rfl) (by kernel_rfl) (fun z1 z2 h b=>h.trans (b.mono h.size)) (Below.drew b0R) ?_
          apply wpSegs_call (fun w'=>w'.heap[w.heap.size]? = some (.cells #[.pointer (some ⟨b,0,none⟩)] 63 (0,0))) (fun u w'=>∃ ua uc,u=.slice ua Ln.length uc/\w'.ownsRow 0 9 1 u Ln.length (Ln.flatMap strEnc)/\(∀ g,u.ownBlock=some g->¬ Y g)/\PAt Y b en T8 w'/\Kept Y w1 w') (fun _ h=>h) (fun w' h=>QB.out w' (HK7.out.trans (Below.kept h Y)))
          case hq =>
           intro z1 hz1
           have ne:Nonempty (Wld (Below z1.heap.size z1)):=⟨⟨z1,Below.refl _ _⟩⟩
           have c0:=fun x:Wld (Below z1.heap.size z1)=>jC ((x.good.block _ (jB hz1)).trans hz1) 0
           simp only [List.getElem?_toArray,List.getElem?_cons_zero] at c0
           simp only [pickOps,List.getElem?_cons_zero,List.getElem?_cons_succ]
           apply quiet_hide
           intro KE hKE
           repeat (go_big_quiet_step (fail))
           refine wpQuiet_nil ?_
           exact hKE _ rfl
          case ho=>rfl
          case hw=>kernel_rfl
          case hD=>exact fun u z1 z2 ⟨ua,uc,h1,h2,h3,h4,h5⟩ hb=>⟨ua,uc,h1,owns_below h2 hb,h3,h4.below hb,h5.trans (Below.kept hb Y)⟩
          case hDJ=>exact fun _ u w' ⟨ua,uc,h1,h2,h3,h4,h5⟩=>QB.out w' h5
          case hlo =>
           intro z1 hz1
           refine loose_call (args:=#[.pointer (some ⟨b,0,none⟩),.int .i64 6]) (run_call_func rfl (by kernel_rfl) HEN.out) ((columns_any (most:=6) (by omega) (P7.out.below hz1)).mono ?_)
           rintro e z2 ⟨g2,⟨Ln,S',v,h2,rfl,o2,l2,p2⟩|⟨er',h2,rfl⟩⟩
           · rw [HN.out] at h2
             cases h2
             obtain ⟨ua,uc,rfl,_⟩:=owns_shape' o2
             exact ⟨_,rfl,ua,uc,rfl,owns_base o2 (Nat.zero_le _),fun g hg hx=>absurd (jL (P7.out.lt g hx) hz1.size) (Nat.not_lt.2 (own_ge o2 hg)),p2,(HK7.out.trans (Below.kept hz1 Y)).leaf g2 NB.out⟩
           · rw [HN.out] at h2;cases h2
          case hrest =>
           rintro u z1 ⟨ua,uc,rfl,-⟩
           simp only [Act.put,List.setIfInBounds_toArray,List.set_cons_succ,List.set_cons_zero]
           apply wpSegs_cons (fun w'=>w'.heap[w.heap.size]? = some (.cells #[.pointer (some ⟨b,0,none⟩)] 63 (0,0))) (fun _ w'=>PAt Y b en ({ T8 with s:={ T8.s with names:=Ln } }:PS) w'/\Kept Y w1 w') (fun _ h=>h) (fun w' h=>by obtain ⟨_,_,_,_,_,_,h5⟩:=h;exact QB.out w' h5)
           case hq =>
            intro z1 hz1
            have ne:Nonempty (Wld (Below z1.heap.size z1)):=⟨⟨z1,Below.refl _ _⟩⟩
            simp only [pickOps,List.getElem?_cons_zero,List.getElem?_cons_succ]
            apply quiet_hide
            intro KE hKE
            repeat (go_big_quiet_step (fail))
            refine wpQuiet_nil ?_
            exact hKE _ rfl
           case hDJ=>exact fun _ u w' h=>QB.out w' h.2
           case ho=>rfl
           case hop=>rfl
           case hw=>kernel_rfl
           case hD=>exact fun u z1 z2 h hb=>⟨h.1.below hb,h.2.trans (Below.kept hb Y)⟩
           case hlo =>
            rintro wa ⟨ua',uc',hu,ho,hv,hp,hk⟩
            obtain ⟨_,_,L,hbx,_,_⟩:=hp.open
            have cx:=jC hbx 6
            have fx:=free_of hbx 6
            simp only [boxC,List.getElem?_toArray,List.getElem?_cons_zero,List.getElem?_cons_succ] at cx
            have HO:=hid ho
            have HV:=hid hv
            have HP:=hid hp
            have HK:=hid hk
            clear hbx hp hk hu ho hv
            go_wp2_with fail
            have st:=HP.out.put_names HO.out HV.out
            exact ⟨st.1,HK.out.leaf st.2 NB.out⟩
           case hrest =>
            rintro u9 w9x h9x
            refine wpSegs_nil fun w8 h9=>?_
            obtain ⟨S8,hS8⟩:∃ T,T=({ T8 with s:={ T8.s with names:=Ln } }:PS):=⟨_,rfl⟩
            have P8:=hid (show PAt Y b en S8 w8 by rw [hS8];exact h9.1)
            have HK8:=hid (show Kept Y w1 w8 from h9.2)
            have HE8:=hid (show createM en S=_ from HE8.out.trans (bind_ok (a:=()) (S':=({ T8 with s:={ T8.s with names:=Ln } }:PS)) rfl))
            rw [<- hS8] at HE8
            have HS8:=hid hS8
            clear h9 h9x hS8 HN HEN
            have kp:=jC (QB.out _ HK8.out) 0
            simp only [List.getElem?_toArray,List.getElem?_cons_zero] at kp
            have con:=must_any (P8.out.below ((b0R).alloc (jR _) (.cells #[.string w_rp] 9))) (words_at w8 [w_rp] (by simp)) (fun k hk=>by have:=P8.out.lt_box;omega)
            go_wp2_with fail
            refine con.mono ?_
            rintro e w9 ⟨g,h⟩
            have HK9:=hid (HK8.out.leaf ((World.grownBy_alloc w8 (.cells #[.string w_rp] 9) (some b)).trans g.g) NB.out)
            clear con g kp
            obtain ⟨S9,h9,rfl,p9⟩|⟨er,h9,rfl⟩:=h
            case inr =>
             have HR:=hid (show createM en S=.error er from HE8.out.trans h9)
             clear h9
             go_wp2_with fail
             refine ⟨rfl,?_⟩
             rw [HPST.out]
             exact ⟨FK.out _ HK9.out,Or.inr ⟨er,HR.out,rfl⟩⟩
            have HS9:=hid (show S9.s=S8.s from (must_state h9).1)
            have HE9:=hid (HE8.out.trans h9)
            have P9:=hid p9
            clear h9 p9
            go_wp2_with fail
            go_end0
            rw [HPST.out]
            exact ⟨FK.out _ HK9.out,Or.inl ⟨_,HE9.out,rfl,FP.out _ _ P9.out⟩⟩
end
section
open Go.RowKit
theorem bind_inv {α β:Type} {m:PM α} {f:α->PM β} {S S':PS} {r:β} (h:PM.bind m f S=.ok (r,S')):∃ a S1,m S=.ok (a,S1)/\f a S1=.ok (r,S'):=by
 unfold PM.bind at h
 cases hm:m S with
 | error e=>rw [hm] at h;cases h
 | ok q=>rw [hm] at h;exact ⟨q.1,q.2,rfl,h⟩
theorem set_start {en:Nat} {S:PS} (h:namedT (nowT en S)=false):∃ er,setOne en S=.error er:=by
 obtain ⟨er,he⟩:=named_start h
 exact ⟨er,(congrFun (setOne_eq en) S).trans (bind_error he)⟩
theorem set_keeps {en:Nat} {S S':PS} (h:setOne en S=.ok ((),S')):S'.s.wher=S.s.wher:=by
 rw [setOne_eq] at h
 obtain ⟨c,S1,h1,h⟩:=bind_inv h
 obtain ⟨_,S2,h2,h⟩:=bind_inv h
 obtain ⟨t,S3,h3,h⟩:=bind_inv h
 cases h3
 have e2:S2.s=S.s:=by rw [(must_state h2).1,name_keeps h1]
 split at h
 · obtain ⟨d,S4,h4,h⟩:=bind_inv h
   obtain ⟨_,S5,h5,h⟩:=bind_inv h
   obtain ⟨n,S6,h6,h⟩:=bind_inv h
   cases h
   show S6.s.wher=S.s.wher
   rw [number_keeps h6,(must_state h5).1,name_keeps h4]
   show S2.s.wher=S.s.wher
   rw [e2]
 · obtain ⟨v,S4,h4,h⟩:=bind_inv h
   cases h
   show S4.s.wher=S.s.wher
   rw [(value_keeps h4).1,e2]
theorem update_any {X:Nat->Prop} {b en:Nat} {S:PS} {w:World} (h:PAt X b en S w) (hz:S.s.sets.length<=500/\S.s.wher.length<=500) :
 Calls Tryz.prog 41 #[.pointer (some ⟨b,0,none⟩)] w fun e w'=>StepU X b en w (updateM en S) e w':=by
 have hmf:=hmf
 obtain ⟨Pst,hPst⟩:∃ Pst,Pst=StepU X b en w (updateM en S):=⟨_,rfl⟩
 have HPST:=hid hPst
 rw [<- hPst]
 have HB0:=hid (show b<w.heap.size/\w.heap.size ≠ b/\(∀ k,k<b->X k)/\¬ X b from ⟨h.lt_box,fun e=>by have:=h.lt_box;omega,h.old,h.nb⟩)
 have HZ0:=hid hz
 clear hz
 obtain ⟨w1,hw1⟩:∃ W,w.alloc (.cells #[.pointer (some ⟨b,0,none⟩)] 63)=W:=⟨_,rfl⟩
 have bB:Below w.heap.size w w1:=by rw [<- hw1];exact (b0R).alloc (jR _) _
 have hqb:w1.heap[w.heap.size]? = some (.cells #[.pointer (some ⟨b,0,none⟩)] 63 (0,0)):=by rw [<- hw1];exact heap_alloc_new _ _
 obtain ⟨Y,hY⟩:∃ Y:Nat->Prop,Y=fun k=>X k \/ (w.heap.size<=k/\k<w1.heap.size):=⟨_,rfl⟩
 have hp:PAt Y b en S w1:=by rw [hY];exact h.more bB (fun _ h=>Or.inl h) (fun _ h=>h)
 have hyq:Y w.heap.size:=by rw [hY];exact Or.inr ⟨jR _,jB hqb⟩
 have hxy:∀ k,X k->Y k:=by rw [hY];exact fun k hk=>Or.inl hk
 have HXY:=hid (show (∀ k,X k->Y k)/\Y w.heap.size from ⟨hxy,hyq⟩)
 have FK:=hid (show ∀ w',Kept Y w1 w'->Kept X w w' from fun w' k=>(Below.kept bB X).trans (k.weaken fun i _ hx=>hxy i hx))
 have FP:=hid (show ∀ S' w',PAt Y b en S' w'->PAt X b en S' w' from fun S' w' p=>p.fewer hxy h.old)
 have QB:=hid (show ∀ w',Kept Y w1 w'->w'.heap[w.heap.size]? = some (.cells #[.pointer (some ⟨b,0,none⟩)] 63 (0,0)) from fun w' k=>(k.block _ hyq (jB hqb)).trans hqb)
 have NB:=hid (show ¬ Y b from hp.nb)
 obtain ⟨S1,hS1⟩:∃ x,x=S:=⟨_,rfl⟩
 have HK1:=hid (Kept.refl Y w1)
 have P1:=hid (show PAt Y b en S1 w1 by rw [hS1];exact hp)
 have HE1:=hid ((congrArg (updateM en) hS1.symm).trans (congrFun (update_eq en) S1))
 have HS1:=hid hS1
 clear h hPst bB hqb hY hp hyq hxy hS1
 go_enter Tryz.func41,Tryz.ntmps41
 go_upto_region 1 with (fail)
 clear hw1
 have HEN:=hid (show ∀ args w,(callFunc 79 args).run Tryz.prog w=.ok (.enter 79 args) w from enters_of Tryz.func79 (by kernel_rfl) rfl)
 go_upto_region 1 with (fail)
 cases hn:nameM en S1 with
 | error er =>
  have HR:=hid (show updateM en S=.error er from HE1.out.trans (bind_error hn))
  have HN:=hid hn
  clear hn
  apply wp_region_dies [2,0,1] 3 (Below w1.heap.size w1) (fun e w'=>e=trouble er/\Kept Y w1 w')
  case hq =>
   intro z1 hz1
   have ne:Nonempty (Wld (Below z1.heap.size z1)):=⟨⟨z1,Below.refl _ _⟩⟩
   have c0:=fun x:Wld (Below z1.heap.size z1)=>jC (QB.out x.val ((HK1.out.trans (Below.kept hz1 Y)).trans (Below.kept x.good Y))) 0
   simp only [List.getElem?_toArray,List.getElem?_cons_zero] at c0
   simp only [pickOps,List.getElem?_cons_zero,List.getElem?_cons_succ]
   apply quiet_hide
   intro KE hKE
   repeat (go_big_quiet_step (fail))
   refine wpQuiet_nil ?_
   exact hKE _ rfl
  case hm=>kernel_rfl
  case hB=>kernel_rfl
  case hl=>decide
  case hI=>exact fun z1 z2 h b=>h.trans (b.mono h.size)
  case hw=>exact Below.drew b0R
  case ho=>rfl
  case hwant=>kernel_rfl
  case hd =>
   intro z1 hz1
   refine dies_call (args:=#[.pointer (some ⟨b,0,none⟩)]) (run_call_func rfl (by kernel_rfl) HEN.out) ((name_any (P1.out.below hz1)).mono ?_)
   rintro e z2 ⟨g2,⟨_,_,h2,_⟩|⟨er',h2,rfl⟩⟩
   · rw [HN.out] at h2;cases h2
   · rw [HN.out] at h2
     cases h2
     exact ⟨⟨_,rfl⟩,rfl,(HK1.out.trans (Below.kept hz1 Y)).leaf g2.g NB.out⟩
  case hQ =>
   rintro a' w' ch hd ⟨h1,h2⟩
   refine ⟨hd,?_⟩
   rw [HPST.out]
   exact ⟨FK.out _ h2,Or.inr ⟨er,HR.out,h1⟩⟩
 | ok q =>
  obtain ⟨nm,T2⟩:=q
  have HT2:=hid (show T2.s=S1.s from by rw [name_keeps hn])
  have HE2:=hid (HE1.out.trans (bind_ok hn))
  have HN:=hid hn
  clear hn
  refine wp_region_loose2 [([2,0,1],3),([4,5,6],7),([8,9,10],11)] (fun w'=>w'.heap[w.heap.size]? = some (.cells #[.pointer (some ⟨b,0,none⟩)] 63 (0,0))) (Below w1.heap.size w1) (by kernel_rfl) (by kernel_rfl) (by kernel_rfl) (fun z1 z2 h b=>h.trans (b.mono h.size)) (Below.drew b0R) ?_
  apply wpSegs_call (fun w'=>w'.heap[w.heap.size]? = some (.cells #[.pointer (some ⟨b,0,none⟩)] 63 (0,0))) (fun u w'=>u=.string nm/\PAt Y b en T2 w'/\Kept Y w1 w') (fun _ h=>h) (fun w' h=>QB.out w' (HK1.out.trans (Below.kept h Y)))
  case hq =>
   intro z1 hz1
   have ne:Nonempty (Wld (Below z1.heap.size z1)):=⟨⟨z1,Below.refl _ _⟩⟩
   have c0:=fun x:Wld (Below z1.heap.size z1)=>jC ((x.good.block _ (jB hz1)).trans hz1) 0
   simp only [List.getElem?_toArray,List.getElem?_cons_zero] at c0
   simp only [pickOps,List.getElem?_cons_zero,List.getElem?_cons_succ]
   apply quiet_hide
   intro KE hKE
   repeat (go_big_quiet_step (fail))
   refine wpQuiet_nil ?_
   exact hKE _ rfl
  case ho=>rfl
  case hw=>kernel_rfl
  case hD=>exact fun u z1 z2 h hb=>⟨h.1,h.2.1.below hb,h.2.2.trans (Below.kept hb Y)⟩
  case hDJ=>exact fun _ u w' h=>QB.out w' h.2.2
  case hlo =>
   intro z1 hz1
   refine loose_call (args:=#[.pointer (some ⟨b,0,none⟩)]) (run_call_func rfl (by kernel_rfl) HEN.out) ((name_any (P1.out.below hz1)).mono ?_)
   rintro e z2 ⟨g2,⟨a,S',h2,rfl,p2⟩|⟨er',h2,rfl⟩⟩
   · rw [HN.out] at h2
     cases h2
     exact ⟨_,rfl,rfl,p2,(HK1.out.trans (Below.kept hz1 Y)).leaf g2.g NB.out⟩
   · rw [HN.out] at h2;cases h2
  case hrest =>
   rintro u z1 ⟨rfl,-,-⟩
   simp only [Act.put,List.setIfInBounds_toArray,List.set_cons_succ,List.set_cons_zero]
   apply wpSegs_cons (fun w'=>w'.heap[w.heap.size]? = some (.cells #[.pointer (some ⟨b,0,none⟩)] 63 (0,0))) (fun _ w'=>PAt Y b en ({ T2 with s:={ T2.s with kind:=5 } }:PS) w'/\Kept Y w1 w') (fun _ h=>h) (fun w' h=>QB.out w' h.2.2)
   case hq =>
    intro z1 hz1
    have ne:Nonempty (Wld (Below z1.heap.size z1)):=⟨⟨z1,Below.refl _ _⟩⟩
    simp only [pickOps,List.getElem?_cons_zero,List.getElem?_cons_succ]
    apply quiet_hide
    intro KE hKE
    repeat (go_big_quiet_step (fail))
    refine wpQuiet_nil ?_
    exact hKE _ rfl
   case hDJ=>exact fun _ u w' h=>QB.out w' h.2
   case ho=>rfl
   case hop=>rfl
   case hw=>kernel_rfl
   case hD=>exact fun u z1 z2 h hb=>⟨h.1.below hb,h.2.trans (Below.kept hb Y)⟩
   case hlo =>
    rintro wa ⟨_,hp,hk⟩
    obtain ⟨_,_,L,hbx,_,_⟩:=hp.open
    have cx:=jC hbx 2
    have fx:=free_of hbx 2
    simp only [boxC,List.getElem?_toArray,List.getElem?_cons_zero,List.getElem?_cons_succ] at cx
    have HP:=hid hp
    have HK:=hid hk
    clear hbx hp hk
    go_wp2_with fail
    have st:=HP.out.store (j:=2) (v:=.int .i64 5) (s':={ T2.s with kind:=5 }) (fun _ _=>rfl) ⟨rfl,rfl,rfl,rfl,rfl,rfl⟩
    exact ⟨st.1,HK.out.leaf st.2 NB.out⟩
   case hrest =>
    rintro _ z1 -
    simp only [Act.put,List.setIfInBounds_toArray,List.set_cons_succ,List.set_cons_zero]
    apply wpSegs_cons (fun w'=>w'.heap[w.heap.size]? = some (.cells #[.pointer (some ⟨b,0,none⟩)] 63 (0,0))) (fun _ w'=>PAt Y b en ({ T2 with s:={ T2.s with kind:=5,table:=nm } }:PS) w'/\Kept Y w1 w') (fun _ h=>h) (fun w' h=>QB.out w' h.2)
    case hq =>
     intro z1 hz1
     have ne:Nonempty (Wld (Below z1.heap.size z1)):=⟨⟨z1,Below.refl _ _⟩⟩
     simp only [pickOps,List.getElem?_cons_zero,List.getElem?_cons_succ]
     apply quiet_hide
     intro KE hKE
     repeat (go_big_quiet_step (fail))
     refine wpQuiet_nil ?_
     exact hKE _ rfl
    case hDJ=>exact fun _ u w' h=>QB.out w' h.2
    case ho=>rfl
    case hop=>rfl
    case hw=>kernel_rfl
    case hD=>exact fun u z1 z2 h hb=>⟨h.1.below hb,h.2.trans (Below.kept hb Y)⟩
    case hlo =>
     rintro wa ⟨hp,hk⟩
     obtain ⟨_,_,L,hbx,_,_⟩:=hp.open
     have cx:=jC hbx 3
     have fx:=free_of hbx 3
     simp only [boxC,List.getElem?_toArray,List.getElem?_cons_zero,List.getElem?_cons_succ] at cx
     have HP:=hid hp
     have HK:=hid hk
     clear hbx hp hk
     go_wp2_with fail
     have st:=HP.out.store (j:=3) (v:=.string nm) (s':={ T2.s with kind:=5,table:=nm }) (fun _ _=>rfl) ⟨rfl,rfl,rfl,rfl,rfl,rfl⟩
     exact ⟨st.1,HK.out.leaf st.2 NB.out⟩
    case hrest =>
     rintro u9 w9x h9x
     refine wpSegs_nil fun w2 h9=>?_
     obtain ⟨S2,hS2⟩:∃ T,T=({ T2 with s:={ T2.s with kind:=5,table:=nm } }:PS):=⟨_,rfl⟩
     have P2:=hid (show PAt Y b en S2 w2 by rw [hS2];exact h9.1)
     have HK2:=hid (show Kept Y w1 w2 from h9.2)
     have HE2:=hid (show updateM en S=_ from HE2.out.trans (bind_ok (a:=()) (S':=({ T2 with s:={ T2.s with kind:=5,table:=nm } }:PS)) rfl))
     rw [<- hS2] at HE2
     have HS2:=hid hS2
     clear h9 h9x hS2 HN HEN
     have kp:=jC (QB.out _ HK2.out) 0
     simp only [List.getElem?_toArray,List.getElem?_cons_zero] at kp
     have con:=must_any (P2.out.below ((b0R).alloc (jR _) (.cells #[.string w_set] 9))) (words_at w2 [w_set] (by simp)) (fun k hk=>by have:=P2.out.lt_box;omega)
     go_wp2_with fail
     refine con.mono ?_
     rintro e w3 ⟨g,h⟩
     have HK3:=hid (HK2.out.leaf ((World.grownBy_alloc w2 (.cells #[.string w_set] 9) (some b)).trans g.g) NB.out)
     clear con g kp
     obtain ⟨S3,h3,rfl,p3⟩|⟨er,h3,rfl⟩:=h
     case inr =>
      have HR:=hid (show updateM en S=.error er from HE2.out.trans (bind_error h3))
      clear h3
      go_wp2_with fail
      refine ⟨rfl,?_⟩
      rw [HPST.out]
      exact ⟨FK.out _ HK3.out,Or.inr ⟨er,HR.out,rfl⟩⟩
     have HS3:=hid (show S3.s=S2.s from (must_state h3).1)
     have HE3:=hid (HE2.out.trans (bind_ok h3))
     have P3:=hid p3
     clear h3 p3
     have HL3:=hid (show S3.s.sets.length<=500/\S3.s.wher.length<=500 by rw [HS3.out,HS2.out];show T2.s.sets.length<=500/\T2.s.wher.length<=500;rw [HT2.out,HS1.out];exact HZ0.out)
     have kp:=jC (QB.out _ HK3.out) 0
     simp only [List.getElem?_toArray,List.getElem?_cons_zero] at kp
     have con:=list_sj (X:=X) (b:=b) (en:=en) (qp:=w.heap.size) (w0:=w) (len:=fun s=>s.sets.length) (most:=6) (n:=500) (bt:=w_comma) (st:=namedT) (one:=setOne en) (fs:=82) (g:=88)
      (fun t w1 he hs=>named_any t he hs) (enters_of Tryz.func82 (by kernel_rfl) rfl) (enters_of Tryz.func88 (by kernel_rfl) rfl)
      (fun i T w1 hi hJ=>set1_any hi hJ HB0.out.1) (fun T _ hs=>set_start hs) (by omega) (by omega) HB0.out.2.1 HB0.out.2.2.2 ⟨QB.out _ HK3.out,⟨Y,P3.out,HXY.out.1,HXY.out.2⟩,FK.out _ HK3.out,HL3.out.1⟩
     go_wp2_with fail
     refine con.mono ?_
     rintro e w4 (⟨S4,h,rfl,hJ⟩|⟨er,h,rfl,hk⟩)
     case inr =>
      have HR:=hid (show updateM en S=.error er from HE3.out.trans (bind_error h))
      have HKX:=hid hk
      clear h hk con kp
      go_wp2_with fail
      refine ⟨rfl,?_⟩
      rw [HPST.out]
      exact ⟨HKX.out,Or.inr ⟨er,HR.out,rfl⟩⟩
     obtain ⟨hq,⟨Y4,hp,hxy,hyq⟩,hk,hl⟩:=hJ
     have HE4:=hid (HE3.out.trans (bind_ok h))
     have HXY:=hid (show (∀ k,X k->Y4 k)/\Y4 w.heap.size from ⟨hxy,hyq⟩)
     have FK:=hid (show ∀ w',Kept Y4 w4 w'->Kept X w w' from fun w' k=>hk.trans (k.weaken fun i _ hx=>hxy i hx))
     have FP:=hid (show ∀ S' w',PAt Y4 b en S' w'->PAt (X) b en S' w' from fun S' w' p=>p.fewer hxy HB0.out.2.2.1)
     have QB:=hid (show ∀ w',Kept Y4 w4 w'->w'.heap[w.heap.size]? = some (.cells #[.pointer (some ⟨b,0,none⟩)] 63 (0,0)) from fun w' k=>(k.block _ hyq (jB hq)).trans hq)
     have NB:=hid (show ¬ Y4 b from hp.nb)
     have HK4:=hid (Kept.refl Y4 w4)
     have P4:=hid hp
     have HLST:=hid h
     clear h hp hk hl hq hxy hyq con kp
     have HZ4:=hid (show S4.s.wher.length<=500 from list_keeps (φ:=fun s=>s.wher.length<=500) (fun S S1 h hp=>by rw [set_keeps h];exact hp) 6 _ _ HLST.out HL3.out.2)
     have kp:=jC (QB.out _ HK4.out) 0
     simp only [List.getElem?_toArray,List.getElem?_cons_zero] at kp
     have con:=where_any P4.out HZ4.out
     go_wp2_with fail
     refine con.mono ?_
     rintro e w5 ⟨g,h⟩
     have HK5:=hid (HK4.out.trans g)
     clear con g
     obtain ⟨S5,h5,rfl,p5⟩|⟨er,h5,rfl⟩:=h
     case inr =>
      have HR:=hid (show updateM en S=.error er from HE4.out.trans h5)
      clear h5
      go_wp2_with fail
      refine ⟨rfl,?_⟩
      rw [HPST.out]
      exact ⟨FK.out _ HK5.out,Or.inr ⟨er,HR.out,rfl⟩⟩
     have HE5:=hid (HE4.out.trans h5)
     have P5:=hid p5
     clear h5 p5
     go_wp2_with fail
     go_end0
     rw [HPST.out]
     exact ⟨FK.out _ HK5.out,Or.inl ⟨_,HE5.out,rfl,FP.out _ _ P5.out⟩⟩
end
end Go.Proofs.YtjcpccadmcglgaaGreatDoor
