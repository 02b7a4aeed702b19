/- value.Text: the literal of a value. -/
import Derived.Test.YtjcpccadmcglgaaGreatDoorZK30
import Derived.Test.YtjcpccadmcglgaaGreatDoorZK1
import Derived.Lib.AppendIntMem
import Derived.Test.YtjcpccadmcglgaaGreatDoorZK4
import Derived.Test.YtjcpccadmcglgaaGreatDoorZK29
import Derived.Test.YtjcpccadmcglgaaGreatDoorZK2
set_option linter.unusedVariables false
set_option linter.unusedSimpArgs false
set_option maxRecDepth 100000
set_option maxHeartbeats 64000000
namespace Go.Proofs.YtjcpccadmcglgaaGreatDoor
open Go.Lib (hid)
section
open Go.RowKit
theorem escQ_swap (s:List UInt8):swapB 39 [39,39] s=escQ s:=by
 induction s with
 | nil=>rfl
 | cons c s ih =>
  rw [swapB,ih]
  unfold escQ
  rw [List.flatMap_cons]
  by_cases h:c=39
  · subst h;rfl
  · rw [if_neg h,if_neg (by simpa using h)]
theorem replaceAll_escQ (s:List UInt8):Lib.replaceAll s [39] [39,39]=escQ s:=by
 rw [replaceAll_swap 39 [39,39] s rfl,escQ_swap]
theorem countB_quote (s:ByteArray) (hs:s.size<=4294967000):s.size+Lib.countB s ⟨#[39]⟩ * (⟨#[39,39]⟩:ByteArray).size<=140737488355328:=by
 have h:=Lib.countB_mul_le ⟨#[39]⟩ (by decide) s.size s (jR _)
 have e:(⟨#[39]⟩:ByteArray).size=1:=rfl
 have e2:(⟨#[39,39]⟩:ByteArray).size=2:=rfl
 rw [e] at h
 rw [e2]
 omega
theorem rall_any (s:ByteArray) (w:World) (hs:s.size<=4294967000) (he:EnvL w) :
 Calls Tryz.prog 121 #[.string s,.string ⟨#[39]⟩,.string ⟨#[39,39]⟩] w fun e w'=>e=.returned (.string ⟨⟨escQ s.data.toList⟩⟩)/\Below w.heap.size w w':=by
 obtain ⟨m,hm⟩:=he.max
 have:=Tryz.strings_ReplaceAll s ⟨#[39]⟩ ⟨#[39,39]⟩ m w (by omega) hm (by decide) (countB_quote s hs)
 have e:Lib.replaceAll s.data.toList (⟨#[39]⟩:ByteArray).data.toList (⟨#[39,39]⟩:ByteArray).data.toList=escQ s.data.toList:=replaceAll_escQ _
 rw [e] at this
 exact this
theorem escQ_len (s:List UInt8):(escQ s).length<=2 * s.length:=by
 induction s with
 | nil=>exact jR _
 | cons c s ih =>
  unfold escQ at ih ⊢
  rw [List.flatMap_cons,List.length_append,List.length_cons]
  split <;> simp only [List.length_cons,List.length_nil] <;> omega
def ValOk (v:Val):Prop:=-9223372036854775808<=v.n/\v.n<=9223372036854775807/\v.s.size<=4294967000
theorem text_any (v:Val) (hv:ValOk v) {w:World} (he:EnvL w) :
 Calls Tryz.prog 73 #[.agg #[.int .i64 v.kind,.int .i64 v.n,.string v.s]] w fun e w'=>e=.returned (.string (textV v))/\Below w.heap.size w w':=by
 obtain ⟨vk,vn,vs⟩:=v
 obtain ⟨h1,h2,h3⟩:=hv
 simp only at h1 h2 h3 ⊢
 obtain ⟨W,hW⟩:∃ W,w.alloc (.cells #[.int .i64 vk,.int .i64 vn,.string vs] 50)=W:=⟨_,rfl⟩
 have bW:Below w.heap.size w W:=by rw [<- hW];exact (b0R).alloc (jR _) _
 have hq:W.heap[w.heap.size]? = some (.cells #[.int .i64 vk,.int .i64 vn,.string vs] 50 (0,0)):=by rw [<- hW];exact heap_alloc_new _ _
 have k0:=jC hq 0
 have k1:=jC hq 1
 have k2:=jC hq 2
 simp only [gT,gZ,gS] at k0 k1 k2
 have BW:=hid bW
 have HE:=hid (he.below bW)
 clear hq bW he
 by_cases e0:vk=0
 · have HT:=hid (show textV ⟨vk,vn,vs⟩=w_null by unfold textV;rw [if_pos e0])
   subst e0
   go_enter Tryz.func73,Tryz.ntmps73
   go_wp2_with fail
   go_ret
   exact ⟨by rw [HT.out];rfl,BW.out⟩
 · by_cases e1:vk=1
   · have HT:=hid (show textV ⟨vk,vn,vs⟩=⟨⟨Lib.itoa vn⟩⟩ by unfold textV;rw [if_neg e0,if_pos e1])
     have con:=Tryz.strconv_FormatInt_10 vn h1 h2 W HE.out.pow
     subst e1
     clear e0
     go_enter Tryz.func73,Tryz.ntmps73
     go_wp2_with fail
     refine con.mono ?_
     rintro e w2 ⟨rfl,k,os,rfl⟩
     go_wp2_with fail
     go_ret
     exact ⟨by rw [HT.out];rfl,BW.out.trans (Lib.below_grow _ _ BW.out.size k os)⟩
   · by_cases e2:vk=2
     · have HT:=hid (show textV ⟨vk,vn,vs⟩=⟨⟨39 :: (escQ vs.data.toList ++ [39])⟩⟩ by unfold textV;rw [if_neg e0,if_neg e1,if_pos e2])
       have con:=rall_any vs W h3 HE.out
       have hle:(escQ vs.data.toList).length<=8589934000:=by
        have h4:=escQ_len vs.data.toList
        have h5:vs.data.toList.length=vs.size:=by simp
        omega
       subst e2
       clear e0 e1
       go_enter Tryz.func73,Tryz.ntmps73
       go_wp2_with fail
       refine con.mono ?_
       rintro e w2 ⟨rfl,b2⟩
       have B2:=hid (BW.out.trans (b2.mono BW.out.size))
       clear con b2
       go_wp2_with fail
       go_ret
       refine ⟨?_,B2.out⟩
       rw [HT.out]
       congr 2
     · have HT:=hid (show textV ⟨vk,vn,vs⟩=noStr by unfold textV;rw [if_neg e0,if_neg e1,if_neg e2])
       go_enter Tryz.func73,Tryz.ntmps73
       go_wp2_with fail
       go_ret
       exact ⟨by rw [HT.out];rfl,BW.out⟩
end
section
open Go.RowKit
theorem str_none {x:ByteArray} (h:x=noStr):x.toList.isEmpty=true/\(!x.toList.isEmpty)=false:=by
 subst h
 exact ⟨by decide +kernel,by decide +kernel⟩
theorem str_some {x:ByteArray} (h:¬ x=noStr):x.toList.isEmpty=false/\(!x.toList.isEmpty)=true:=by
 have e:x.toList.isEmpty=false:=by
  rw [toList_data]
  cases hc:x.data.toList with
  | nil =>
   refine absurd ?_ h
   apply ByteArray.ext
   apply Array.toList_inj.1
   rw [hc]
   rfl
  | cons _ _=>rfl
 exact ⟨e,by rw [e];rfl⟩
def BSl (w:World) (L:List ByteArray) (u:Value) (w':World):Prop :=
 ∃ g,u=.slice (some ⟨g,0,none⟩) L.length L.length/\w.heap.size<=g/\w'.heap[g]? = some (.cells (L.map Value.string).toArray 9 (0,0))/\Below w.heap.size w w'
theorem BSl.below {w:World} {L:List ByteArray} {u:Value} {w1 w2:World} (h:BSl w L u w1) (b:Below w1.heap.size w1 w2):BSl w L u w2:=by
 obtain ⟨g,h1,h2,h3,h4⟩:=h
 exact ⟨g,h1,h2,(b.block _ (jB h3)).trans h3,h4.trans (b.mono h4.size)⟩
theorem BSl.after {w:World} {L:List ByteArray} {u:Value} {w1:World} (h:BSl w L u w1):Below w.heap.size w w1:=by
 obtain ⟨g,h1,h2,h3,h4⟩:=h
 exact h4
theorem bsl_new {w wa:World} {L:List ByteArray} (b:Below w.heap.size w wa):BSl w L (.slice (some ⟨wa.heap.size,0,none⟩) L.length L.length) (wa.alloc (.cells (L.map Value.string).toArray 9)) :=
 ⟨wa.heap.size,rfl,b.size,heap_alloc_new _ _,b.trans (((b0R).alloc (jR _) _).mono b.size)⟩
theorem words_block {w:World} {g:Nat} {xs:List ByteArray} (hb:w.heap[g]? = some (.cells (xs.map Value.string).toArray 9 (0,0))) (h0:xs.length<=1000):SlV strF (fun k=>k=g) w (.slice (some ⟨g,0,none⟩) xs.length xs.length) xs:=by
 refine ⟨_,_,rfl,jR _,by omega,Or.inr ⟨_,_,rfl,rfl,Live.of_block hb,fun t ht=>⟨strEnc xs[t],fun j hj=>?_,rfl⟩⟩⟩
 obtain rfl:j=0:=by have:j<1:=hj;omega
 rw [jC hb]
 simp only [strF,flatR,Nat.mul_one,Nat.zero_add,Nat.add_zero,List.getElem?_toArray,List.getElem?_map,List.getElem?_eq_getElem ht,Option.map_some,strEnc,List.getElem?_cons_zero]
theorem add_at {X:Nat->Prop} {b:Nat} {acc L:List ByteArray} {w w1:World} {u:Value} (h:QAt X b acc w) (hs:BSl w L u w1) (hn:L.length<=1000) (hl:acc.length+L.length<=1000000) :
 Calls Tryz.prog 68 #[.pointer (some ⟨b,0,none⟩),u] w1 (QStep X b (acc ++ L) w):=by
 obtain ⟨g,rfl,hg,hb,hw⟩:=hs
 refine (add_any (h.more (Y:=fun k=>X k \/ (w.heap.size<=k/\k<w1.heap.size)) hw (fun _ hk=>Or.inl hk) (fun _ hk=>hk)) ?_ hl).mono fun e w' s=>QStep.with h hw s
 exact (words_block hb hn).weaken fun k e=>Or.inr ⟨by rw [e];exact hg,by rw [e];exact jB hb⟩
theorem wpSegs_assign_q {P:Program} {l:List Oper} {Q:Act->World->Prop} {I C:World->Prop} {qs:List Nat} {j:Nat} {a A:Act} {o:Oper} {x:Operand} (J:World->Prop) (v:Value) (hC:Stable C) (hJI:∀ w,J w->I w) (hCJ:∀ w,C w->J w)
 (hq:∀ w0,J w0->wpQuiet P l.toArray (fun w'=>∃ x:Wld (Below w0.heap.size w0),w'=x.val) (fun a'=>a'=A) (pickOps l qs) a)
 (ho:l[j]? = some o) (hop:o.op=.assign x) (hw:Region.wanted o (yielded l.toArray A.tmps)=true) (hj:j=l.length - 1) (hv:A.eval x=v)
 (hrest:∀ w,C w->Q (A.put o.dst v) w):wpSegs P l Q I [(qs,j)] a C:=by
 refine ⟨J,A,hJI,hCJ,hq,o,ho,hw,fun u w=>u=A.eval x/\C w,fun u w w' h hb=>⟨h.1,hC w w' h.2 hb⟩,fun h=>absurd hj h,fun w hc=>?_,fun u ⟨w,h⟩ w' h'=>?_⟩
 · unfold Oper.loose execOp
   rw [hop]
   exact ⟨A.eval x,fun _ _ _=>rfl,rfl,hc⟩
 · rw [h'.1,hv]
   exact hrest w' h'.2
end
section
open Go.RowKit
def colP (c:ByteArray × Int):List ByteArray:=[c.1,if c.2=1 then w_int else w_text]
theorem ptok1_any {X:Nat->Prop} {b qp qs:Nat} {acc:List ByteArray} {l:List (ByteArray × Int)} {p:Nat->Prop} {sk sa sm sn:Int} {stb snm sj sl sr:ByteArray} {vc vn vr vs vw vo:Value} {w:World} (h:QAt X b acc w) (hp:w.heap[qp]? = some (.cells #[.pointer (some ⟨b,0,none⟩)] 102 (0,0)))
 (hv:w.heap[qs]? = some (.cells #[.int .i64 sk,.string stb,.string snm,vc,vn,vr,vs,vw,.string sj,.string sl,.string sr,.int .i64 sa,vo,.int .i64 sm,.int .i64 sn] 33 (0,0))) (hl:SlV colR p w vc l) (i:Nat) (hi:i<l.length) (hc:acc.length<=900000) :
 Calls Tryz.prog 70 #[.int .i64 i,.pointer (some ⟨qs,0,none⟩),.pointer (some ⟨qp,0,none⟩)] w (QStep X b (acc ++ colP l[i]) w):=by
 obtain ⟨Pst,hPst⟩:∃ Pst,Pst=QStep X b (acc ++ colP l[i]) w:=⟨_,rfl⟩
 have HPST:=hid hPst
 rw [<- hPst]
 have H:=hid h
 have HP:=hid hp
 have HEN:=hid (enters_of Tryz.func68 (by kernel_rfl) rfl)
 obtain ⟨a,c,rfl,h3,h4,h5⟩:=hl
 obtain ⟨g,o,rfl,_,hlt⟩:=h5.addr (by intro e;rw [e] at hi;cases hi)
 obtain ⟨n,hn⟩:∃ n,n=l.length:=⟨_,rfl⟩
 have cx:=h5.col i hi
 obtain ⟨⟨xc,xk⟩,hx⟩:∃ x,l[i]=x:=⟨_,rfl⟩
 rw [hx] at cx
 rw [hx] at HPST
 simp only at cx
 rw [<- hn] at hi h3 h4 hv
 have HV:=hid hv
 have CX:=hid cx
 have HG:=hid hlt
 have k0:=jC hv 3
 have y1:=cx.2
 simp only [gT,gZ,gS] at k0
 clear h hp hv h5 hPst cx hx hn
 by_cases e1:xk=1
 · have HC:=hid (show colP (xc,xk)=[xc,w_int] by unfold colP;rw [if_pos e1])
   have HLN:=hid (show acc.length+([xc,w_int]:List ByteArray).length<=1000000 by simp;omega)
   have d1:(xk == 1)=true:=by simpa using e1
   rw [HC.out] at HPST
   go_enter Tryz.func70,Tryz.ntmps70
   go_upto_region 3 with (fail)
   clear k0 y1 d1 e1
   refine wp_region_loose2 [([0,1,2,3,4,5,6,7],8),([],9)] (Below w.heap.size w) (Below w.heap.size w) (by kernel_rfl) (by kernel_rfl) (by kernel_rfl) (fun z1 z2 h b=>h.trans (b.mono h.size)) (Below.drew b0R) ?_
   apply wpSegs_cons (Below w.heap.size w) (BSl w [xc,w_int]) (fun _ h=>h) (fun _ h=>h)
   case hq =>
    intro z1 hz1
    have ne:Nonempty (Wld (Below z1.heap.size z1)):=⟨⟨z1,Below.refl _ _⟩⟩
    have B1:=fun x:Wld (Below z1.heap.size z1)=>hz1.trans (x.good.mono hz1.size)
    have x0:=fun x:Wld (Below z1.heap.size z1)=>jC (((B1 x).block _ (jB HP.out)).trans HP.out) 0
    have x1:=fun x:Wld (Below z1.heap.size z1)=>jC (((B1 x).block _ (jB HV.out)).trans HV.out) 3
    have x2:=fun x:Wld (Below z1.heap.size z1)=>((B1 x).cell (p:=⟨g,o+i * 2,none⟩) HG.out).trans CX.out.1
    simp only [gT,gZ,gS] at x0 x1
    simp only [pickOps,List.getElem?_cons_zero,List.getElem?_cons_succ]
    apply quiet_hide
    intro KE hKE
    clear B1
    repeat (go_big_quiet_step (fail))
    refine wpQuiet_nil ?_
    exact hKE _ rfl
   case ho=>rfl
   case hop=>rfl
   case hw=>kernel_rfl
   case hD=>exact fun u z1 z2 h hb=>h.below hb
   case hDJ=>exact fun _ u w' h=>h.after
   case hlo =>
    intro wa ba
    go_wp2_with fail
    exact bsl_new ba
   case hrest =>
    rintro u z1 ⟨g,rfl,-⟩
    simp only [Act.put,List.setIfInBounds_toArray,List.set_cons_succ,List.set_cons_zero]
    apply wpSegs_call (BSl w [xc,w_int] (.slice (some ⟨g,0,none⟩) ([xc,w_int]:List ByteArray).length ([xc,w_int]:List ByteArray).length)) (fun _ w'=>Kept X w w'/\QAt X b (acc ++ [xc,w_int]) w') (fun _ h=>h.after) (fun _ h=>h)
    case hq=>exact fun _ _=>rfl
    case ho=>rfl
    case hw=>kernel_rfl
    case hD=>exact fun u z1 z2 h hb=>⟨h.1.trans (Below.kept hb _),h.2.below hb⟩
    case hDJ=>exact fun h=>absurd rfl h
    case hlo =>
     intro z1 hz1
     refine loose_call (args:=#[.pointer (some ⟨b,0,none⟩),.slice (some ⟨g,0,none⟩) ([xc,w_int]:List ByteArray).length ([xc,w_int]:List ByteArray).length]) (run_call_func rfl (by kernel_rfl) HEN.out) ((add_at H.out hz1 (by simp) HLN.out).mono ?_)
     rintro e z2 ⟨rfl,k2,q2⟩
     exact ⟨_,rfl,k2,q2⟩
    case hrest =>
     rintro _ z1 -
     simp only [Act.put]
     refine wpSegs_nil fun w9 h9=>?_
     go_end0
     rw [HPST.out]
     exact ⟨rfl,h9⟩
 · have HC:=hid (show colP (xc,xk)=[xc,w_text] by unfold colP;rw [if_neg e1])
   have HLN:=hid (show acc.length+([xc,w_text]:List ByteArray).length<=1000000 by simp;omega)
   have d1:(xk == 1)=false:=by simpa using e1
   rw [HC.out] at HPST
   go_enter Tryz.func70,Tryz.ntmps70
   go_upto_region 3 with (fail)
   clear k0 y1 d1 e1
   refine wp_region_loose2 [([0,1,2,3,4,5,6,7],8),([],9)] (Below w.heap.size w) (Below w.heap.size w) (by kernel_rfl) (by kernel_rfl) (by kernel_rfl) (fun z1 z2 h b=>h.trans (b.mono h.size)) (Below.drew b0R) ?_
   apply wpSegs_cons (Below w.heap.size w) (BSl w [xc,w_text]) (fun _ h=>h) (fun _ h=>h)
   case hq =>
    intro z1 hz1
    have ne:Nonempty (Wld (Below z1.heap.size z1)):=⟨⟨z1,Below.refl _ _⟩⟩
    have B1:=fun x:Wld (Below z1.heap.size z1)=>hz1.trans (x.good.mono hz1.size)
    have x0:=fun x:Wld (Below z1.heap.size z1)=>jC (((B1 x).block _ (jB HP.out)).trans HP.out) 0
    have x1:=fun x:Wld (Below z1.heap.size z1)=>jC (((B1 x).block _ (jB HV.out)).trans HV.out) 3
    have x2:=fun x:Wld (Below z1.heap.size z1)=>((B1 x).cell (p:=⟨g,o+i * 2,none⟩) HG.out).trans CX.out.1
    simp only [gT,gZ,gS] at x0 x1
    simp only [pickOps,List.getElem?_cons_zero,List.getElem?_cons_succ]
    apply quiet_hide
    intro KE hKE
    clear B1
    repeat (go_big_quiet_step (fail))
    refine wpQuiet_nil ?_
    exact hKE _ rfl
   case ho=>rfl
   case hop=>rfl
   case hw=>kernel_rfl
   case hD=>exact fun u z1 z2 h hb=>h.below hb
   case hDJ=>exact fun _ u w' h=>h.after
   case hlo =>
    intro wa ba
    go_wp2_with fail
    exact bsl_new ba
   case hrest =>
    rintro u z1 ⟨g,rfl,-⟩
    simp only [Act.put,List.setIfInBounds_toArray,List.set_cons_succ,List.set_cons_zero]
    apply wpSegs_call (BSl w [xc,w_text] (.slice (some ⟨g,0,none⟩) ([xc,w_text]:List ByteArray).length ([xc,w_text]:List ByteArray).length)) (fun _ w'=>Kept X w w'/\QAt X b (acc ++ [xc,w_text]) w') (fun _ h=>h.after) (fun _ h=>h)
    case hq=>exact fun _ _=>rfl
    case ho=>rfl
    case hw=>kernel_rfl
    case hD=>exact fun u z1 z2 h hb=>⟨h.1.trans (Below.kept hb _),h.2.below hb⟩
    case hDJ=>exact fun h=>absurd rfl h
    case hlo =>
     intro z1 hz1
     refine loose_call (args:=#[.pointer (some ⟨b,0,none⟩),.slice (some ⟨g,0,none⟩) ([xc,w_text]:List ByteArray).length ([xc,w_text]:List ByteArray).length]) (run_call_func rfl (by kernel_rfl) HEN.out) ((add_at H.out hz1 (by simp) HLN.out).mono ?_)
     rintro e z2 ⟨rfl,k2,q2⟩
     exact ⟨_,rfl,k2,q2⟩
    case hrest =>
     rintro _ z1 -
     simp only [Act.put]
     refine wpSegs_nil fun w9 h9=>?_
     go_end0
     rw [HPST.out]
     exact ⟨rfl,h9⟩
theorem ptok2_any {X:Nat->Prop} {b qp qs:Nat} {acc:List ByteArray} {l:List (Val)} {p:Nat->Prop} {sk sa sm sn:Int} {stb snm sj sl sr:ByteArray} {vc vn vr vs vw vo:Value} {w:World} (h:QAt X b acc w) (hp:w.heap[qp]? = some (.cells #[.pointer (some ⟨b,0,none⟩)] 102 (0,0)))
 (hv:w.heap[qs]? = some (.cells #[.int .i64 sk,.string stb,.string snm,vc,vn,vr,vs,vw,.string sj,.string sl,.string sr,.int .i64 sa,vo,.int .i64 sm,.int .i64 sn] 33 (0,0))) (hl:SlV valR p w vr l) (ho:∀ v ∈ l,ValOk v) (i:Nat) (hi:i<l.length) (hc:acc.length<=900000) :
 Calls Tryz.prog 72 #[.int .i64 i,.pointer (some ⟨qp,0,none⟩),.pointer (some ⟨qs,0,none⟩)] w (QStep X b (acc ++ [textV l[i]]) w):=by
 obtain ⟨Pst,hPst⟩:∃ Pst,Pst=QStep X b (acc ++ [textV l[i]]) w:=⟨_,rfl⟩
 have HPST:=hid hPst
 rw [<- hPst]
 have H:=hid h
 have HP:=hid hp
 have HEN:=hid (enters_of Tryz.func68 (by kernel_rfl) rfl)
 obtain ⟨a,c,rfl,h3,h4,h5⟩:=hl
 obtain ⟨g,o,rfl,_,hlt⟩:=h5.addr (by intro e;rw [e] at hi;cases hi)
 obtain ⟨n,hn⟩:∃ n,n=l.length:=⟨_,rfl⟩
 have cx:=h5.val i hi
 have hvo:=ho l[i] (List.getElem_mem hi)
 obtain ⟨⟨xk,xn,xs⟩,hx⟩:∃ x,l[i]=x:=⟨_,rfl⟩
 rw [hx] at cx hvo
 rw [hx] at HPST
 simp only at cx
 rw [<- hn] at hi h3 h4 hv
 have HV:=hid hv
 have CX:=hid cx
 have HG:=hid hlt
 have HVO:=hid hvo
 have HLN:=hid (show acc.length+([textV ⟨xk,xn,xs⟩]:List ByteArray).length<=1000000 by simp;omega)
 clear h hp hv h5 hPst cx hx hn hvo
 go_enter Tryz.func72,Tryz.ntmps72
 refine wp_region_loose2 [([0,1,2,3,4,5,6],7),([],8)] (Below w.heap.size w) (Below w.heap.size w) (by kernel_rfl) (by kernel_rfl) (by kernel_rfl) (fun z1 z2 h b=>h.trans (b.mono h.size)) (Below.drew b0R) ?_
 apply wpSegs_cons (Below w.heap.size w) (BSl w [textV ⟨xk,xn,xs⟩]) (fun _ h=>h) (fun _ h=>h)
 case hq =>
  intro z1 hz1
  have ne:Nonempty (Wld (Below z1.heap.size z1)):=⟨⟨z1,Below.refl _ _⟩⟩
  have B1:=fun x:Wld (Below z1.heap.size z1)=>hz1.trans (x.good.mono hz1.size)
  have x0:=fun x:Wld (Below z1.heap.size z1)=>jC (((B1 x).block _ (jB HP.out)).trans HP.out) 0
  have x1:=fun x:Wld (Below z1.heap.size z1)=>jC (((B1 x).block _ (jB HV.out)).trans HV.out) 5
  have x2:=fun x:Wld (Below z1.heap.size z1)=>((B1 x).cell (p:=⟨g,o+i * 3,none⟩) HG.out).trans CX.out.1
  have x3:=fun x:Wld (Below z1.heap.size z1)=>((B1 x).cell (p:=⟨g,o+i * 3+1,none⟩) HG.out).trans CX.out.2.1
  have x4:=fun x:Wld (Below z1.heap.size z1)=>((B1 x).cell (p:=⟨g,o+i * 3+2,none⟩) HG.out).trans CX.out.2.2
  have HCON:=hid (show ∀ x:Wld (Below z1.heap.size z1),Calls Tryz.prog 73 #[.agg #[.int .i64 xk,.int .i64 xn,.string xs]] x.val (fun e w'=>e=.returned (.string (textV ⟨xk,xn,xs⟩))/\Below x.val.heap.size x.val w') from fun x=>text_any ⟨xk,xn,xs⟩ HVO.out (H.out.below (B1 x)).env)
  simp only [gT,gZ,gS] at x0 x1
  simp only [pickOps,List.getElem?_cons_zero,List.getElem?_cons_succ]
  apply quiet_hide
  intro KE hKE
  clear B1
  repeat (go_big_quiet_step ((go_at_call 73;(with_reducible refine Calls.mono (HCON.out _) ?_);rintro e w3 ⟨rfl,b3⟩;exact ⟨rfl,class_below _ b3 (jR _)⟩)))
  refine wpQuiet_nil ?_
  exact hKE _ rfl
 case ho=>rfl
 case hop=>rfl
 case hw=>kernel_rfl
 case hD=>exact fun u z1 z2 h hb=>h.below hb
 case hDJ=>exact fun _ u w' h=>h.after
 case hlo =>
  intro wa ba
  go_wp2_with fail
  exact bsl_new ba
 case hrest =>
  rintro u z1 ⟨g,rfl,-⟩
  simp only [Act.put,List.setIfInBounds_toArray,List.set_cons_succ,List.set_cons_zero]
  apply wpSegs_call (BSl w [textV ⟨xk,xn,xs⟩] (.slice (some ⟨g,0,none⟩) ([textV ⟨xk,xn,xs⟩]:List ByteArray).length ([textV ⟨xk,xn,xs⟩]:List ByteArray).length)) (fun _ w'=>Kept X w w'/\QAt X b (acc ++ [textV ⟨xk,xn,xs⟩]) w') (fun _ h=>h.after) (fun _ h=>h)
  case hq=>exact fun _ _=>rfl
  case ho=>rfl
  case hw=>kernel_rfl
  case hD=>exact fun u z1 z2 h hb=>⟨h.1.trans (Below.kept hb _),h.2.below hb⟩
  case hDJ=>exact fun h=>absurd rfl h
  case hlo =>
   intro z1 hz1
   refine loose_call (args:=#[.pointer (some ⟨b,0,none⟩),.slice (some ⟨g,0,none⟩) ([textV ⟨xk,xn,xs⟩]:List ByteArray).length ([textV ⟨xk,xn,xs⟩]:List ByteArray).length]) (run_call_func rfl (by kernel_rfl) HEN.out) ((add_at H.out hz1 (by simp) HLN.out).mono ?_)
   rintro e z2 ⟨rfl,k2,q2⟩
   exact ⟨_,rfl,k2,q2⟩
  case hrest =>
   rintro _ z1 -
   simp only [Act.put]
   refine wpSegs_nil fun w9 h9=>?_
   go_end0
   rw [HPST.out]
   exact ⟨rfl,h9⟩
theorem ptok3_any {X:Nat->Prop} {b qp qs:Nat} {acc:List ByteArray} {l:List (SetV)} {p:Nat->Prop} {sk sa sm sn:Int} {stb snm sj sl sr:ByteArray} {vc vn vr vs vw vo:Value} {w:World} (h:QAt X b acc w) (hp:w.heap[qp]? = some (.cells #[.pointer (some ⟨b,0,none⟩)] 102 (0,0)))
 (hv:w.heap[qs]? = some (.cells #[.int .i64 sk,.string stb,.string snm,vc,vn,vr,vs,vw,.string sj,.string sl,.string sr,.int .i64 sa,vo,.int .i64 sm,.int .i64 sn] 33 (0,0))) (hl:SlV setR p w vs l) (hxp:X qp) (ho:∀ x ∈ l,ValOk x.val) (i:Nat) (hi:i<l.length) (hc:acc.length<=900000) :
 Calls Tryz.prog 74 #[.int .i64 i,.pointer (some ⟨qs,0,none⟩),.pointer (some ⟨qp,0,none⟩)] w (QStep X b (acc ++ setP l[i]) w):=by
 obtain ⟨Pst,hPst⟩:∃ Pst,Pst=QStep X b (acc ++ setP l[i]) w:=⟨_,rfl⟩
 have HPST:=hid hPst
 rw [<- hPst]
 have H:=hid h
 have HP:=hid hp
 have HEN:=hid (enters_of Tryz.func68 (by kernel_rfl) rfl)
 obtain ⟨a,c,rfl,h3,h4,h5⟩:=hl
 obtain ⟨g,o,rfl,_,hlt⟩:=h5.addr (by intro e;rw [e] at hi;cases hi)
 obtain ⟨n,hn⟩:∃ n,n=l.length:=⟨_,rfl⟩
 have cx:=h5.set i hi
 have hvo:=ho l[i] (List.getElem_mem hi)
 obtain ⟨⟨xc,x2,⟨xk,xn,xs⟩⟩,hx⟩:∃ x,l[i]=x:=⟨_,rfl⟩
 rw [hx] at cx hvo
 rw [hx] at HPST
 simp only at cx hvo
 rw [<- hn] at hi h3 h4 hv
 have HVO:=hid hvo
 have k0:=jC hv 6
 obtain ⟨y0,y1,y2,y3,y4⟩:=cx
 simp only [gT,gZ,gS] at k0
 have HP0:=hid (show ∀ w',Kept X w w'->w'.heap[qp]? = some (.cells #[.pointer (some ⟨b,0,none⟩)] 102 (0,0)) from fun w' k=>(k.block _ hxp (jB hp)).trans hp)
 obtain ⟨w4,hw4⟩:∃ W,w.alloc (.cells #[.string xc,.string x2,.int .i64 xk,.int .i64 xn,.string xs] 54)=W:=⟨_,rfl⟩
 have b2:Below w.heap.size w w4:=by rw [<- hw4];exact (b0R).alloc (jR _) _
 have hb0:w4.heap[w.heap.size]? = some (.cells #[.string xc,.string x2,.int .i64 xk,.int .i64 xn,.string xs] 54 (0,0)):=by rw [<- hw4];exact heap_alloc_new _ _
 obtain ⟨Y,hY⟩:∃ Y:Nat->Prop,Y=fun k=>X k \/ (w.heap.size<=k/\k<w4.heap.size):=⟨_,rfl⟩
 have Q2:=hid (show QAt Y b acc w4 by rw [hY];exact h.more b2 (fun _ hk=>Or.inl hk) (fun _ hk=>hk))
 have ZQ:=hid (show ∀ l e w',QStep Y b l w4 e w'->QStep X b l w e w' from fun l e w' s=>QStep.with h b2 (by rw [<- hY];exact s))
 have HK2:=hid (Kept.refl Y w4)
 have SB:=hid (show ∀ w',Kept Y w4 w'->w'.heap[w.heap.size]? = some (.cells #[.string xc,.string x2,.int .i64 xk,.int .i64 xn,.string xs] 54 (0,0)) from fun w' k=>(k.block _ (by rw [hY];exact Or.inr ⟨jR _,jB hb0⟩) (jB hb0)).trans hb0)
 have PB:=hid (show ∀ w',Kept Y w4 w'->w'.heap[qp]? = some (.cells #[.pointer (some ⟨b,0,none⟩)] 102 (0,0)) from fun w' k=>HP0.out w' ((Below.kept b2 X).trans (k.weaken fun j _ hj=>by rw [hY];exact Or.inl hj)))
 clear h b2 hb0 hY hp hv h5 hPst hx hn hvo hxp
 go_enter Tryz.func74,Tryz.ntmps74
 go_upto_region 1 with (fail)
 clear k0 y0 y1 y2 y3 y4 hw4
 have zp:=jC (PB.out _ HK2.out) 0
 have z0:=jC (SB.out _ HK2.out) 0
 simp only [gT,gZ,gS] at zp z0
 have con:=add_words (w1:=w4.alloc (.cells (([xc,w_eq]:List ByteArray).map Value.string).toArray 9)) [xc,w_eq] (by simp) Q2.out rfl (by show acc.length+2<=1000000;omega)
 go_wp2_with fail
 refine con.mono ?_
 rintro e w3 ⟨rfl,k3,q3⟩
 obtain ⟨A3,hA3⟩:∃ A,A=acc ++ ([xc,w_eq]:List ByteArray):=⟨_,rfl⟩
 have hL3:A3.length<=900002:=by rw [hA3,List.length_append];show acc.length+2<=900002;omega
 rw [<- hA3] at q3
 have EA3:=hid hA3
 have HK3:=hid (HK2.out.trans k3)
 have Q3:=hid q3
 clear con k3 q3 hA3
 clear zp z0
 by_cases e1:x2=noStr
 · have HE2:=hid (show (if x2=noStr then ([]:List ByteArray) else [x2,w_plus])=[] from if_pos e1)
   obtain ⟨d1,d2⟩:=str_none e1
   clear e1
   have z1:=jC (SB.out _ HK3.out) 1
   simp only [gT,gZ,gS] at z1
   go_upto_region 4 with (fail)
   have HLN:=hid (show A3.length+([textV ⟨xk,xn,xs⟩]:List ByteArray).length<=1000000 by simp;omega)
   clear z1 d1 d2
   refine wp_region_loose2 [([0,1,2,3],4),([],5)] (Below w3.heap.size w3) (Below w3.heap.size w3) (by kernel_rfl) (by kernel_rfl) (by kernel_rfl) (fun z1 z2 h b=>h.trans (b.mono h.size)) (Below.drew b0R) ?_
   apply wpSegs_cons (Below w3.heap.size w3) (BSl w3 [textV ⟨xk,xn,xs⟩]) (fun _ h=>h) (fun _ h=>h)
   case hq =>
    intro z1 hz1
    have ne:Nonempty (Wld (Below z1.heap.size z1)):=⟨⟨z1,Below.refl _ _⟩⟩
    have B1:=fun x:Wld (Below z1.heap.size z1)=>hz1.trans (x.good.mono hz1.size)
    have x0:=fun x:Wld (Below z1.heap.size z1)=>jC (((B1 x).block _ (jB (PB.out _ HK3.out))).trans (PB.out _ HK3.out)) 0
    have x2:=fun x:Wld (Below z1.heap.size z1)=>jC (((B1 x).block _ (jB (SB.out _ HK3.out))).trans (SB.out _ HK3.out)) 2
    have x3:=fun x:Wld (Below z1.heap.size z1)=>jC (((B1 x).block _ (jB (SB.out _ HK3.out))).trans (SB.out _ HK3.out)) 3
    have x4:=fun x:Wld (Below z1.heap.size z1)=>jC (((B1 x).block _ (jB (SB.out _ HK3.out))).trans (SB.out _ HK3.out)) 4
    have HCON:=hid (show ∀ x:Wld (Below z1.heap.size z1),Calls Tryz.prog 73 #[.agg #[.int .i64 xk,.int .i64 xn,.string xs]] x.val (fun e w'=>e=.returned (.string (textV ⟨xk,xn,xs⟩))/\Below x.val.heap.size x.val w') from fun x=>text_any ⟨xk,xn,xs⟩ HVO.out (Q3.out.below (B1 x)).env)
    simp only [gT,gZ,gS] at x0 x2 x3 x4
    simp only [pickOps,List.getElem?_cons_zero,List.getElem?_cons_succ]
    apply quiet_hide
    intro KE hKE
    clear B1
    repeat (go_big_quiet_step ((go_at_call 73;(with_reducible refine Calls.mono (HCON.out _) ?_);rintro e w3 ⟨rfl,b3⟩;exact ⟨rfl,class_below _ b3 (jR _)⟩)))
    refine wpQuiet_nil ?_
    exact hKE _ rfl
   case ho=>rfl
   case hop=>rfl
   case hw=>kernel_rfl
   case hD=>exact fun u z1 z2 h hb=>h.below hb
   case hDJ=>exact fun _ u w' h=>h.after
   case hlo =>
    intro wa ba
    go_wp2_with fail
    exact bsl_new ba
   case hrest =>
    rintro u z1 ⟨g,rfl,-⟩
    simp only [Act.put,List.setIfInBounds_toArray,List.set_cons_succ,List.set_cons_zero]
    apply wpSegs_call (BSl w3 [textV ⟨xk,xn,xs⟩] (.slice (some ⟨g,0,none⟩) ([textV ⟨xk,xn,xs⟩]:List ByteArray).length ([textV ⟨xk,xn,xs⟩]:List ByteArray).length)) (fun _ w'=>Kept Y w3 w'/\QAt Y b (A3 ++ [textV ⟨xk,xn,xs⟩]) w') (fun _ h=>h.after) (fun _ h=>h)
    case hq=>exact fun _ _=>rfl
    case ho=>rfl
    case hw=>kernel_rfl
    case hD=>exact fun u z1 z2 h hb=>⟨h.1.trans (Below.kept hb _),h.2.below hb⟩
    case hDJ=>exact fun h=>absurd rfl h
    case hlo =>
     intro z1 hz1
     refine loose_call (args:=#[.pointer (some ⟨b,0,none⟩),.slice (some ⟨g,0,none⟩) ([textV ⟨xk,xn,xs⟩]:List ByteArray).length ([textV ⟨xk,xn,xs⟩]:List ByteArray).length]) (run_call_func rfl (by kernel_rfl) HEN.out) ((add_at Q3.out hz1 (by simp) HLN.out).mono ?_)
     rintro e z2 ⟨rfl,k2,q2⟩
     exact ⟨_,rfl,k2,q2⟩
    case hrest =>
     rintro _ z1 -
     simp only [Act.put]
     refine wpSegs_nil fun w9 h9=>?_
     go_end0
     rw [HPST.out]
     refine ZQ.out _ _ _ ⟨rfl,HK3.out.trans h9.1,?_⟩
     have e:A3 ++ [textV ⟨xk,xn,xs⟩]=acc ++ setP ⟨xc,x2,⟨xk,xn,xs⟩⟩:=by
      unfold setP
      rw [EA3.out,HE2.out]
      simp only [List.append_assoc,List.nil_append,List.cons_append]
     rw [<- e]
     exact h9.2
 · have HE2:=hid (show (if x2=noStr then ([]:List ByteArray) else [x2,w_plus])=[x2,w_plus] from if_neg e1)
   obtain ⟨d1,d2⟩:=str_some e1
   clear e1
   have z1:=jC (SB.out _ HK3.out) 1
   simp only [gT,gZ,gS] at z1
   have zp:=jC (PB.out _ HK3.out) 0
   simp only [gT,gZ,gS] at zp
   have con:=add_words (w1:=w3.alloc (.cells (([x2,w_plus]:List ByteArray).map Value.string).toArray 9)) [x2,w_plus] (by simp) Q3.out rfl (by show A3.length+2<=1000000;omega)
   go_wp2_with fail
   refine con.mono ?_
   rintro e w4 ⟨rfl,k4,q4⟩
   obtain ⟨A4,hA4⟩:∃ A,A=A3 ++ ([x2,w_plus]:List ByteArray):=⟨_,rfl⟩
   have hL4:A4.length<=900004:=by rw [hA4,List.length_append];show A3.length+2<=900004;omega
   rw [<- hA4] at q4
   have EA4:=hid hA4
   have HK4:=hid (HK3.out.trans k4)
   have Q4:=hid q4
   clear con k4 q4 hA4
   skip
   go_upto_region 4 with (fail)
   have HLN:=hid (show A4.length+([textV ⟨xk,xn,xs⟩]:List ByteArray).length<=1000000 by simp;omega)
   clear z1 d1 d2
   refine wp_region_loose2 [([0,1,2,3],4),([],5)] (Below w4.heap.size w4) (Below w4.heap.size w4) (by kernel_rfl) (by kernel_rfl) (by kernel_rfl) (fun z1 z2 h b=>h.trans (b.mono h.size)) (Below.drew b0R) ?_
   apply wpSegs_cons (Below w4.heap.size w4) (BSl w4 [textV ⟨xk,xn,xs⟩]) (fun _ h=>h) (fun _ h=>h)
   case hq =>
    intro z1 hz1
    have ne:Nonempty (Wld (Below z1.heap.size z1)):=⟨⟨z1,Below.refl _ _⟩⟩
    have B1:=fun x:Wld (Below z1.heap.size z1)=>hz1.trans (x.good.mono hz1.size)
    have x0:=fun x:Wld (Below z1.heap.size z1)=>jC (((B1 x).block _ (jB (PB.out _ HK4.out))).trans (PB.out _ HK4.out)) 0
    have x2:=fun x:Wld (Below z1.heap.size z1)=>jC (((B1 x).block _ (jB (SB.out _ HK4.out))).trans (SB.out _ HK4.out)) 2
    have x3:=fun x:Wld (Below z1.heap.size z1)=>jC (((B1 x).block _ (jB (SB.out _ HK4.out))).trans (SB.out _ HK4.out)) 3
    have x4:=fun x:Wld (Below z1.heap.size z1)=>jC (((B1 x).block _ (jB (SB.out _ HK4.out))).trans (SB.out _ HK4.out)) 4
    have HCON:=hid (show ∀ x:Wld (Below z1.heap.size z1),Calls Tryz.prog 73 #[.agg #[.int .i64 xk,.int .i64 xn,.string xs]] x.val (fun e w'=>e=.returned (.string (textV ⟨xk,xn,xs⟩))/\Below x.val.heap.size x.val w') from fun x=>text_any ⟨xk,xn,xs⟩ HVO.out (Q4.out.below (B1 x)).env)
    simp only [gT,gZ,gS] at x0 x2 x3 x4
    simp only [pickOps,List.getElem?_cons_zero,List.getElem?_cons_succ]
    apply quiet_hide
    intro KE hKE
    clear B1
    repeat (go_big_quiet_step ((go_at_call 73;(with_reducible refine Calls.mono (HCON.out _) ?_);rintro e w3 ⟨rfl,b3⟩;exact ⟨rfl,class_below _ b3 (jR _)⟩)))
    refine wpQuiet_nil ?_
    exact hKE _ rfl
   case ho=>rfl
   case hop=>rfl
   case hw=>kernel_rfl
   case hD=>exact fun u z1 z2 h hb=>h.below hb
   case hDJ=>exact fun _ u w' h=>h.after
   case hlo =>
    intro wa ba
    go_wp2_with fail
    exact bsl_new ba
   case hrest =>
    rintro u z1 ⟨g,rfl,-⟩
    simp only [Act.put,List.setIfInBounds_toArray,List.set_cons_succ,List.set_cons_zero]
    apply wpSegs_call (BSl w4 [textV ⟨xk,xn,xs⟩] (.slice (some ⟨g,0,none⟩) ([textV ⟨xk,xn,xs⟩]:List ByteArray).length ([textV ⟨xk,xn,xs⟩]:List ByteArray).length)) (fun _ w'=>Kept Y w4 w'/\QAt Y b (A4 ++ [textV ⟨xk,xn,xs⟩]) w') (fun _ h=>h.after) (fun _ h=>h)
    case hq=>exact fun _ _=>rfl
    case ho=>rfl
    case hw=>kernel_rfl
    case hD=>exact fun u z1 z2 h hb=>⟨h.1.trans (Below.kept hb _),h.2.below hb⟩
    case hDJ=>exact fun h=>absurd rfl h
    case hlo =>
     intro z1 hz1
     refine loose_call (args:=#[.pointer (some ⟨b,0,none⟩),.slice (some ⟨g,0,none⟩) ([textV ⟨xk,xn,xs⟩]:List ByteArray).length ([textV ⟨xk,xn,xs⟩]:List ByteArray).length]) (run_call_func rfl (by kernel_rfl) HEN.out) ((add_at Q4.out hz1 (by simp) HLN.out).mono ?_)
     rintro e z2 ⟨rfl,k2,q2⟩
     exact ⟨_,rfl,k2,q2⟩
    case hrest =>
     rintro _ z1 -
     simp only [Act.put]
     refine wpSegs_nil fun w9 h9=>?_
     go_end0
     rw [HPST.out]
     refine ZQ.out _ _ _ ⟨rfl,HK4.out.trans h9.1,?_⟩
     have e:A4 ++ [textV ⟨xk,xn,xs⟩]=acc ++ setP ⟨xc,x2,⟨xk,xn,xs⟩⟩:=by
      unfold setP
      rw [EA4.out,EA3.out,HE2.out]
      simp only [List.append_assoc,List.nil_append,List.cons_append]
     rw [<- e]
     exact h9.2
end
section
open Go.RowKit
theorem pnames1_any {X:Nat->Prop} {b qp ql:Nat} {acc l:List ByteArray} {p:Nat->Prop} {va:Value} {w:World} (h:QAt X b acc w) (hp:w.heap[qp]? = some (.cells #[.pointer (some ⟨b,0,none⟩)] 102 (0,0))) (hv:w.heap[ql]? = some (.cells #[va] 27 (0,0)))
 (hl:SlV strF p w va l) (i:Nat) (hi:i<l.length) (hc:acc.length<=900000) :
 Calls Tryz.prog 119 #[.int .i64 i,.pointer (some ⟨qp,0,none⟩),.pointer (some ⟨ql,0,none⟩)] w (QStep X b (acc ++ [l[i]]) w):=by
 obtain ⟨Pst,hPst⟩:∃ Pst,Pst=QStep X b (acc ++ [l[i]]) w:=⟨_,rfl⟩
 have HPST:=hid hPst
 rw [<- hPst]
 have H:=hid h
 have HP:=hid hp
 have HV:=hid hv
 have HEN:=hid (enters_of Tryz.func68 (by kernel_rfl) rfl)
 obtain ⟨a,c,rfl,h3,h4,h5⟩:=hl
 obtain ⟨g,o,rfl,_,hlt⟩:=h5.addr (by intro e;rw [e] at hi;cases hi)
 obtain ⟨n,hn⟩:∃ n,n=l.length:=⟨_,rfl⟩
 have cx:=h5.flat i hi 0 (by decide)
 simp only [strEnc,List.getElem?_cons_zero,Nat.mul_one,Nat.add_zero] at cx
 obtain ⟨x,hx⟩:∃ x,l[i]=x:=⟨_,rfl⟩
 rw [hx] at cx hPst
 rw [hx] at HPST
 rw [<- hn] at hi h3 h4 hv HV
 have CX:=hid cx
 have HG:=hid hlt
 have HLN:=hid (show acc.length + [x].length<=1000000 by simp;omega)
 clear h hp hv h5 hPst cx hx hn
 go_enter Tryz.func119,Tryz.ntmps119
 refine wp_region_loose2 [([0,1,2,3,4],5),([],6)] (Below w.heap.size w) (Below w.heap.size w) (by kernel_rfl) (by kernel_rfl) (by kernel_rfl) (fun z1 z2 h b=>h.trans (b.mono h.size)) (Below.drew b0R) ?_
 apply wpSegs_cons (Below w.heap.size w) (BSl w [x]) (fun _ h=>h) (fun _ h=>h)
 case hq =>
  intro z1 hz1
  have ne:Nonempty (Wld (Below z1.heap.size z1)):=⟨⟨z1,Below.refl _ _⟩⟩
  have B1:=fun x:Wld (Below z1.heap.size z1)=>hz1.trans (x.good.mono hz1.size)
  have x0:=fun x:Wld (Below z1.heap.size z1)=>jC (((B1 x).block _ (jB HP.out)).trans HP.out) 0
  have x1:=fun x:Wld (Below z1.heap.size z1)=>jC (((B1 x).block _ (jB HV.out)).trans HV.out) 0
  have x2:=fun x:Wld (Below z1.heap.size z1)=>((B1 x).cell (p:=⟨g,o+i,none⟩) HG.out).trans CX.out
  simp only [List.getElem?_toArray,List.getElem?_cons_zero] at x0 x1
  simp only [pickOps,List.getElem?_cons_zero,List.getElem?_cons_succ]
  apply quiet_hide
  intro KE hKE
  clear B1
  repeat (go_big_quiet_step (fail))
  refine wpQuiet_nil ?_
  exact hKE _ rfl
 case ho=>rfl
 case hop=>rfl
 case hw=>kernel_rfl
 case hD=>exact fun u z1 z2 h hb=>h.below hb
 case hDJ=>exact fun _ u w' h=>h.after
 case hlo =>
  intro wa ba
  go_wp2_with fail
  exact bsl_new ba
 case hrest =>
  rintro u z1 ⟨g,rfl,-⟩
  simp only [Act.put,List.setIfInBounds_toArray,List.set_cons_succ,List.set_cons_zero]
  apply wpSegs_call (BSl w [x] (.slice (some ⟨g,0,none⟩) ([x]:List ByteArray).length ([x]:List ByteArray).length)) (fun _ w'=>Kept X w w'/\QAt X b (acc ++ [x]) w') (fun _ h=>h.after) (fun _ h=>h)
  case hq=>exact fun _ _=>rfl
  case ho=>rfl
  case hw=>kernel_rfl
  case hD=>exact fun u z1 z2 h hb=>⟨h.1.trans (Below.kept hb _),h.2.below hb⟩
  case hDJ=>exact fun h=>absurd rfl h
  case hlo =>
   intro z1 hz1
   refine loose_call (args:=#[.pointer (some ⟨b,0,none⟩),.slice (some ⟨g,0,none⟩) ([x]:List ByteArray).length ([x]:List ByteArray).length]) (run_call_func rfl (by kernel_rfl) HEN.out) ((add_at H.out hz1 (by simp) HLN.out).mono ?_)
   rintro e z2 ⟨rfl,k2,q2⟩
   exact ⟨_,rfl,k2,q2⟩
  case hrest =>
   rintro _ z1 -
   simp only [Act.put]
   refine wpSegs_nil fun w9 h9=>?_
   go_end0
   rw [HPST.out]
   exact ⟨rfl,h9⟩
theorem pnames_any {X:Nat->Prop} {b:Nat} {acc l:List ByteArray} {va:Value} {w:World} (h:QAt X b acc w) (hl:SlV strF (fun k=>k<b) w va l) (hacc:acc.length<=100000) (hn:l.length<=1000) :
 Calls Tryz.prog 71 #[.pointer (some ⟨b,0,none⟩),va] w (QStep X b (acc ++ namesP l) w):=by
 obtain ⟨Pst,hPst⟩:∃ Pst,Pst=QStep X b (acc ++ namesP l) w:=⟨_,rfl⟩
 have HPST:=hid hPst
 rw [<- hPst]
 clear hPst
 obtain ⟨W1,hW1⟩:∃ W,w.alloc (.cells #[.pointer (some ⟨b,0,none⟩)] 102)=W:=⟨_,rfl⟩
 have h1s:W1.heap.size=w.heap.size+1:=by rw [<- hW1];simp
 obtain ⟨W2,hW2⟩:∃ W,W1.alloc (.cells #[va] 27)=W:=⟨_,rfl⟩
 have h2s:W2.heap.size=w.heap.size+2:=by rw [<- hW2];simp [h1s]
 have b2:Below w.heap.size w W2:=by rw [<- hW2,<- hW1];exact ((b0R).alloc (jR _) _).alloc (by simp) _
 have hb0:W2.heap[w.heap.size]? = some (.cells #[.pointer (some ⟨b,0,none⟩)] 102 (0,0)):=by rw [<- hW2,heap_alloc_old _ _ (by omega),<- hW1];exact heap_alloc_new _ _
 have hb1:W2.heap[w.heap.size+1]? = some (.cells #[va] 27 (0,0)):=by rw [<- hW2,<- h1s];exact heap_alloc_new _ _
 obtain ⟨Y,hY⟩:∃ Y:Nat->Prop,Y=fun k=>X k \/ (w.heap.size<=k/\k<W2.heap.size):=⟨_,rfl⟩
 have Q2:=hid (show QAt Y b acc W2 by rw [hY];exact h.more b2 (fun _ hk=>Or.inl hk) (fun _ hk=>hk))
 have ZQ:=hid (show ∀ l e w',QStep Y b l W2 e w'->QStep X b l w e w' from fun l e w' s=>QStep.with h b2 (by rw [<- hY];exact s))
 have HK2:=hid (Kept.refl Y W2)
 have YO:=hid (show ∀ k,k<b->Y k from fun k hk=>by rw [hY];exact Or.inl (h.old k hk))
 have PB:=hid (show ∀ w',Kept Y W2 w'->w'.heap[w.heap.size]? = some (.cells #[.pointer (some ⟨b,0,none⟩)] 102 (0,0)) from fun w' k=>(k.block _ (by rw [hY];exact Or.inr ⟨by omega,by omega⟩) (jB hb0)).trans hb0)
 have SB:=hid (show ∀ w',Kept Y W2 w'->w'.heap[w.heap.size+1]? = some (.cells #[va] 27 (0,0)) from fun w' k=>(k.block _ (by rw [hY];exact Or.inr ⟨by omega,by omega⟩) (jB hb1)).trans hb1)
 have LK:=hid (show ∀ w',Kept Y W2 w'->SlV strF (fun k=>k<b) w' va l from fun w' k=>(hl.below b2).keep fun j hj hlt=>k.block j (YO.out j hj) hlt)
 obtain ⟨ca,cc,rfl⟩:=hl.shape
 clear h hl b2 hb0 hb1 hY
 go_enter Tryz.func71,Tryz.ntmps71
 have z0:=jC (PB.out _ HK2.out) 0
 have z1:=jC (SB.out _ HK2.out) 0
 simp only [gT,gZ,gS] at z0 z1
 have con:=all_any (m:=1) (bt:=w_comma) (f:=fun x:ByteArray=>[x]) (L:=l) (c0:=.pointer (some ⟨w.heap.size,0,none⟩)) (c1:=.pointer (some ⟨w.heap.size+1,0,none⟩)) Q2.out (enters_of Tryz.func119 (by kernel_rfl) rfl) (fun i hi a w1 qa k hb=>pnames1_any qa (PB.out _ k) (SB.out _ k) (LK.out _ k) i hi hb) (fun _ _=>jR 1) (by decide) hacc hn
 go_wp2_with fail
 refine con.mono ?_
 rintro e w3 s3
 obtain ⟨rfl,k3,q3⟩:=s3
 have N3:=hid (show _/\_ from ⟨k3,q3⟩)
 clear con k3 q3 z0 z1
 go_wp2_with fail
 go_end0
 rw [HPST.out]
 exact ZQ.out _ _ _ ⟨rfl,N3.out⟩
end
section
open Go.RowKit
def condP (c:Cond):List ByteArray:=[c.col,opS c.op,textV c.val]
theorem condP_eq:condP=fun c=>[c.col,opS c.op,textV c.val]:=rfl
theorem op_word {j:Nat} (hj:j<6):((opsL.map Value.string).toArray)[j]? = some (.string (opS ((j:Int)+1))):=by
 rcases (show j=0 \/ j=1 \/ j=2 \/ j=3 \/ j=4 \/ j=5 by omega) with rfl|rfl|rfl|rfl|rfl|rfl <;> rfl
theorem op_none {o:Int} (h:o<1 \/ 6<o):opS o=w_ask:=by
 unfold opS
 split <;> first|omega|rfl
theorem pwhere1_any {X:Nat->Prop} {b qp ql:Nat} {acc:List ByteArray} {l:List Cond} {p:Nat->Prop} {va:Value} {w:World} (h:QAt X b acc w) (hp:w.heap[qp]? = some (.cells #[.pointer (some ⟨b,0,none⟩)] 102 (0,0))) (hv:w.heap[ql]? = some (.cells #[va] 31 (0,0)))
 (hl:SlV condR p w va l) (ho:∀ c ∈ l,ValOk c.val) (i:Nat) (hi:i<l.length) (hc:acc.length<=900000) :
 Calls Tryz.prog 122 #[.int .i64 i,.pointer (some ⟨ql,0,none⟩),.pointer (some ⟨qp,0,none⟩)] w (QStep X b (acc ++ condP l[i]) w):=by
 obtain ⟨Pst,hPst⟩:∃ Pst,Pst=QStep X b (acc ++ condP l[i]) w:=⟨_,rfl⟩
 have HPST:=hid hPst
 rw [<- hPst]
 have H:=hid h
 have HP:=hid hp
 have HEN:=hid (enters_of Tryz.func68 (by kernel_rfl) rfl)
 obtain ⟨a,c,rfl,h3,h4,h5⟩:=hl
 obtain ⟨g,o,rfl,_,hlt⟩:=h5.addr (by intro e;rw [e] at hi;cases hi)
 obtain ⟨n,hn⟩:∃ n,n=l.length:=⟨_,rfl⟩
 have cx:=h5.cond i hi
 have hvo:=ho l[i] (List.getElem_mem hi)
 obtain ⟨⟨xc,xo,⟨xk,xn,xs⟩⟩,hx⟩:∃ x,l[i]=x:=⟨_,rfl⟩
 rw [hx] at cx hvo
 rw [hx] at HPST
 simp only at cx hvo
 rw [<- hn] at hi h3 h4 hv
 have HV:=hid hv
 have CX:=hid cx
 have HG:=hid hlt
 have HVO:=hid hvo
 have HLN:=hid (show acc.length+([xc,opS xo,textV ⟨xk,xn,xs⟩]:List ByteArray).length<=1000000 by simp;omega)
 have k0:=jC hv 0
 have y1:=cx.2.1
 simp only [List.getElem?_toArray,List.getElem?_cons_zero] at k0
 clear h hp hv h5 hPst cx hx hn hvo
 by_cases h1:1<=xo
 · by_cases h2:xo<=6
   · obtain ⟨j,rfl⟩:∃ j:Nat,xo=(j:Int)+1:=⟨(xo - 1).toNat,by omega⟩
     have hj:j<6:=by omega
     have d1:decide ((1:Int)<=(j:Int)+1)=true:=decide_eq_true h1
     have d2:decide ((j:Int)+1<=(6:Int))=true:=decide_eq_true h2
     go_enter Tryz.func122,Tryz.ntmps122
     go_upto_region 2 with (fail)
     clear k0 y1 d1 d2 h1 h2
     have HEF:=hid (enters_of Tryz.func66 (by kernel_rfl) rfl)
     refine wp_region_loose2 [([1,2,3,4,5,6],0),([7,8],9)] (Below w.heap.size w) (Below w.heap.size w) (by kernel_rfl) (by kernel_rfl) (by kernel_rfl) (fun z1 z2 h b=>h.trans (b.mono h.size)) (Below.drew b0R) ?_
     apply wpSegs_call (Below w.heap.size w) (BSl w opsL) (fun _ h=>h) (fun _ h=>h)
     case hq =>
      intro z1 hz1
      have ne:Nonempty (Wld (Below z1.heap.size z1)):=⟨⟨z1,Below.refl _ _⟩⟩
      have B1:=fun x:Wld (Below z1.heap.size z1)=>hz1.trans (x.good.mono hz1.size)
      have x1:=fun x:Wld (Below z1.heap.size z1)=>jC (((B1 x).block _ (jB HV.out)).trans HV.out) 0
      have x2:=fun x:Wld (Below z1.heap.size z1)=>((B1 x).cell (p:=⟨g,o+i * 5+1,none⟩) HG.out).trans CX.out.2.1
      simp only [List.getElem?_toArray,List.getElem?_cons_zero] at x1
      simp only [pickOps,List.getElem?_cons_zero,List.getElem?_cons_succ]
      apply quiet_hide
      intro KE hKE
      clear B1
      repeat (go_big_quiet_step (fail))
      refine wpQuiet_nil ?_
      exact hKE _ rfl
     case ho=>rfl
     case hw=>kernel_rfl
     case hD=>exact fun u z1 z2 h hb=>h.below hb
     case hDJ=>exact fun _ u w' h=>h.after
     case hlo =>
      intro z1 hz1
      refine loose_call (args:=#[.string ⟨#[61,32,60,62,32,60,32,60,61,32,62,32,62,61]⟩]) (run_call_func rfl (by kernel_rfl) HEF.out) ((fields_any (s:=⟨#[61,32,60,62,32,60,32,60,61,32,62,32,62,61]⟩) (L:=opsL) (by decide +kernel) (by decide +kernel) (by decide +kernel) (H.out.below hz1).env).mono ?_)
      rintro e z2 ⟨rfl,rfl⟩
      exact ⟨_,rfl,bsl_new hz1⟩
     case hrest =>
      rintro u z1 ⟨gw,rfl,-⟩
      rw [show opsL.length=6 from rfl]
      simp only [Act.put,List.setIfInBounds_toArray,List.set_cons_succ,List.set_cons_zero]
      apply wpSegs_assign_q (BSl w opsL (.slice (some ⟨gw,0,none⟩) 6 6)) (.string (opS ((j:Int)+1))) (fun z1 z2 h hb=>h.below hb) (fun _ h=>h.after) (fun _ h=>h)
      case hq =>
       intro z1 hz1
       have ne:Nonempty (Wld (Below z1.heap.size z1)):=⟨⟨z1,Below.refl _ _⟩⟩
       have x3:∀ x:Wld (Below z1.heap.size z1),x.val.cell? ⟨gw,j,none⟩=some (.string (opS ((j:Int)+1))):=fun x=>by
        obtain ⟨g',hg',_,hb',_⟩:=hz1
        cases hg'
        exact (jC ((x.good.block _ (jB hb')).trans hb') j).trans (op_word hj)
       simp only [pickOps,List.getElem?_cons_zero,List.getElem?_cons_succ]
       apply quiet_hide
       intro KE hKE
       repeat (go_big_quiet_step (fail))
       refine wpQuiet_nil ?_
       exact hKE _ rfl
      case ho=>rfl
      case hop=>rfl
      case hw=>kernel_rfl
      case hj=>rfl
      case hv=>rfl
      case hrest =>
       intro w9 h9
       have HB:=hid h9.after
       have H9:=hid (H.out.below HB.out)
       simp only [Act.put,List.setIfInBounds_toArray,List.set_cons_succ,List.set_cons_zero]
       clear h9
       go_upto_region 3 with (fail)
       refine wp_region_loose2 [([0,1,2,3,4,5,6,7,8,9,10,11,12],13),([],14)] (Below w9.heap.size w9) (Below w9.heap.size w9) (by kernel_rfl) (by kernel_rfl) (by kernel_rfl) (fun z1 z2 h b=>h.trans (b.mono h.size)) (Below.drew b0R) ?_
       apply wpSegs_cons (Below w9.heap.size w9) (BSl w9 [xc,opS ((j:Int)+1),textV ⟨xk,xn,xs⟩]) (fun _ h=>h) (fun _ h=>h)
       case hq =>
        intro z1 hz1
        have ne:Nonempty (Wld (Below z1.heap.size z1)):=⟨⟨z1,Below.refl _ _⟩⟩
        have B1:=fun x:Wld (Below z1.heap.size z1)=>hz1.trans (x.good.mono hz1.size)
        have x0:=fun x:Wld (Below z1.heap.size z1)=>jC (((HB.out.trans ((B1 x).mono HB.out.size)).block _ (jB HP.out)).trans HP.out) 0
        have x1:=fun x:Wld (Below z1.heap.size z1)=>jC (((HB.out.trans ((B1 x).mono HB.out.size)).block _ (jB HV.out)).trans HV.out) 0
        have x2:=fun x:Wld (Below z1.heap.size z1)=>((HB.out.trans ((B1 x).mono HB.out.size)).cell (p:=⟨g,o+i * 5,none⟩) HG.out).trans CX.out.1
        have x3:=fun x:Wld (Below z1.heap.size z1)=>((HB.out.trans ((B1 x).mono HB.out.size)).cell (p:=⟨g,o+i * 5+2,none⟩) HG.out).trans CX.out.2.2.1
        have x4:=fun x:Wld (Below z1.heap.size z1)=>((HB.out.trans ((B1 x).mono HB.out.size)).cell (p:=⟨g,o+i * 5+3,none⟩) HG.out).trans CX.out.2.2.2.1
        have x5:=fun x:Wld (Below z1.heap.size z1)=>((HB.out.trans ((B1 x).mono HB.out.size)).cell (p:=⟨g,o+i * 5+4,none⟩) HG.out).trans CX.out.2.2.2.2
        have HCON:=hid (show ∀ x:Wld (Below z1.heap.size z1),Calls Tryz.prog 73 #[.agg #[.int .i64 xk,.int .i64 xn,.string xs]] x.val (fun e w'=>e=.returned (.string (textV ⟨xk,xn,xs⟩))/\Below x.val.heap.size x.val w') from fun x=>text_any ⟨xk,xn,xs⟩ HVO.out (H9.out.below (B1 x)).env)
        simp only [List.getElem?_toArray,List.getElem?_cons_zero] at x0 x1
        simp only [pickOps,List.getElem?_cons_zero,List.getElem?_cons_succ]
        apply quiet_hide
        intro KE hKE
        clear B1
        repeat (go_big_quiet_step ((go_at_call 73;(with_reducible refine Calls.mono (HCON.out _) ?_);rintro e w3 ⟨rfl,b3⟩;exact ⟨rfl,class_below _ b3 (jR _)⟩)))
        refine wpQuiet_nil ?_
        exact hKE _ rfl
       case ho=>rfl
       case hop=>rfl
       case hw=>kernel_rfl
       case hD=>exact fun u z1 z2 h hb=>h.below hb
       case hDJ=>exact fun _ u w' h=>h.after
       case hlo =>
        intro wa ba
        go_wp2_with fail
        exact bsl_new ba
       case hrest =>
        rintro u z1 ⟨g,rfl,-⟩
        simp only [Act.put,List.setIfInBounds_toArray,List.set_cons_succ,List.set_cons_zero]
        apply wpSegs_call (BSl w9 [xc,opS ((j:Int)+1),textV ⟨xk,xn,xs⟩] (.slice (some ⟨g,0,none⟩) ([xc,opS ((j:Int)+1),textV ⟨xk,xn,xs⟩]:List ByteArray).length ([xc,opS ((j:Int)+1),textV ⟨xk,xn,xs⟩]:List ByteArray).length)) (fun _ w'=>Kept X w9 w'/\QAt X b (acc ++ [xc,opS ((j:Int)+1),textV ⟨xk,xn,xs⟩]) w') (fun _ h=>h.after) (fun _ h=>h)
        case hq=>exact fun _ _=>rfl
        case ho=>rfl
        case hw=>kernel_rfl
        case hD=>exact fun u z1 z2 h hb=>⟨h.1.trans (Below.kept hb _),h.2.below hb⟩
        case hDJ=>exact fun h=>absurd rfl h
        case hlo =>
         intro z1 hz1
         refine loose_call (args:=#[.pointer (some ⟨b,0,none⟩),.slice (some ⟨g,0,none⟩) ([xc,opS ((j:Int)+1),textV ⟨xk,xn,xs⟩]:List ByteArray).length ([xc,opS ((j:Int)+1),textV ⟨xk,xn,xs⟩]:List ByteArray).length]) (run_call_func rfl (by kernel_rfl) HEN.out) ((add_at H9.out hz1 (by simp) HLN.out).mono ?_)
         rintro e z2 ⟨rfl,k2,q2⟩
         exact ⟨_,rfl,k2,q2⟩
        case hrest =>
         rintro _ z1 -
         simp only [Act.put]
         refine wpSegs_nil fun w9 h9=>?_
         go_end0
         rw [HPST.out]
         exact ⟨rfl,(Below.kept HB.out X).trans h9.1,h9.2⟩
   · have d1:decide ((1:Int)<=xo)=true:=decide_eq_true h1
     have d2:decide (xo<=(6:Int))=false:=decide_eq_false h2
     have HOP:=hid (show opS xo=w_ask from op_none (Or.inr (by omega)))
     go_enter Tryz.func122,Tryz.ntmps122
     go_upto_region 3 with (fail)
     clear k0 y1 d1 d2 h1 h2
     rw [HOP.out] at HLN
     refine wp_region_loose2 [([0,1,2,3,4,5,6,7,8,9,10,11,12],13),([],14)] (Below w.heap.size w) (Below w.heap.size w) (by kernel_rfl) (by kernel_rfl) (by kernel_rfl) (fun z1 z2 h b=>h.trans (b.mono h.size)) (Below.drew b0R) ?_
     apply wpSegs_cons (Below w.heap.size w) (BSl w [xc,w_ask,textV ⟨xk,xn,xs⟩]) (fun _ h=>h) (fun _ h=>h)
     case hq =>
      intro z1 hz1
      have ne:Nonempty (Wld (Below z1.heap.size z1)):=⟨⟨z1,Below.refl _ _⟩⟩
      have B1:=fun x:Wld (Below z1.heap.size z1)=>hz1.trans (x.good.mono hz1.size)
      have x0:=fun x:Wld (Below z1.heap.size z1)=>jC ((((Below.refl w.heap.size w).trans ((B1 x).mono (Below.refl w.heap.size w).size)).block _ (jB HP.out)).trans HP.out) 0
      have x1:=fun x:Wld (Below z1.heap.size z1)=>jC ((((Below.refl w.heap.size w).trans ((B1 x).mono (Below.refl w.heap.size w).size)).block _ (jB HV.out)).trans HV.out) 0
      have x2:=fun x:Wld (Below z1.heap.size z1)=>(((Below.refl w.heap.size w).trans ((B1 x).mono (Below.refl w.heap.size w).size)).cell (p:=⟨g,o+i * 5,none⟩) HG.out).trans CX.out.1
      have x3:=fun x:Wld (Below z1.heap.size z1)=>(((Below.refl w.heap.size w).trans ((B1 x).mono (Below.refl w.heap.size w).size)).cell (p:=⟨g,o+i * 5+2,none⟩) HG.out).trans CX.out.2.2.1
      have x4:=fun x:Wld (Below z1.heap.size z1)=>(((Below.refl w.heap.size w).trans ((B1 x).mono (Below.refl w.heap.size w).size)).cell (p:=⟨g,o+i * 5+3,none⟩) HG.out).trans CX.out.2.2.2.1
      have x5:=fun x:Wld (Below z1.heap.size z1)=>(((Below.refl w.heap.size w).trans ((B1 x).mono (Below.refl w.heap.size w).size)).cell (p:=⟨g,o+i * 5+4,none⟩) HG.out).trans CX.out.2.2.2.2
      have HCON:=hid (show ∀ x:Wld (Below z1.heap.size z1),Calls Tryz.prog 73 #[.agg #[.int .i64 xk,.int .i64 xn,.string xs]] x.val (fun e w'=>e=.returned (.string (textV ⟨xk,xn,xs⟩))/\Below x.val.heap.size x.val w') from fun x=>text_any ⟨xk,xn,xs⟩ HVO.out (H.out.below (B1 x)).env)
      simp only [List.getElem?_toArray,List.getElem?_cons_zero] at x0 x1
      simp only [pickOps,List.getElem?_cons_zero,List.getElem?_cons_succ]
      apply quiet_hide
      intro KE hKE
      clear B1
      repeat (go_big_quiet_step ((go_at_call 73;(with_reducible refine Calls.mono (HCON.out _) ?_);rintro e w3 ⟨rfl,b3⟩;exact ⟨rfl,class_below _ b3 (jR _)⟩)))
      refine wpQuiet_nil ?_
      exact hKE _ rfl
     case ho=>rfl
     case hop=>rfl
     case hw=>kernel_rfl
     case hD=>exact fun u z1 z2 h hb=>h.below hb
     case hDJ=>exact fun _ u w' h=>h.after
     case hlo =>
      intro wa ba
      go_wp2_with fail
      exact bsl_new ba
     case hrest =>
      rintro u z1 ⟨g,rfl,-⟩
      simp only [Act.put,List.setIfInBounds_toArray,List.set_cons_succ,List.set_cons_zero]
      apply wpSegs_call (BSl w [xc,w_ask,textV ⟨xk,xn,xs⟩] (.slice (some ⟨g,0,none⟩) ([xc,w_ask,textV ⟨xk,xn,xs⟩]:List ByteArray).length ([xc,w_ask,textV ⟨xk,xn,xs⟩]:List ByteArray).length)) (fun _ w'=>Kept X w w'/\QAt X b (acc ++ [xc,w_ask,textV ⟨xk,xn,xs⟩]) w') (fun _ h=>h.after) (fun _ h=>h)
      case hq=>exact fun _ _=>rfl
      case ho=>rfl
      case hw=>kernel_rfl
      case hD=>exact fun u z1 z2 h hb=>⟨h.1.trans (Below.kept hb _),h.2.below hb⟩
      case hDJ=>exact fun h=>absurd rfl h
      case hlo =>
       intro z1 hz1
       refine loose_call (args:=#[.pointer (some ⟨b,0,none⟩),.slice (some ⟨g,0,none⟩) ([xc,w_ask,textV ⟨xk,xn,xs⟩]:List ByteArray).length ([xc,w_ask,textV ⟨xk,xn,xs⟩]:List ByteArray).length]) (run_call_func rfl (by kernel_rfl) HEN.out) ((add_at H.out hz1 (by simp) HLN.out).mono ?_)
       rintro e z2 ⟨rfl,k2,q2⟩
       exact ⟨_,rfl,k2,q2⟩
      case hrest =>
       rintro _ z1 -
       simp only [Act.put]
       refine wpSegs_nil fun w9 h9=>?_
       go_end0
       rw [HPST.out]
       refine ⟨rfl,h9.1,?_⟩
       unfold condP
       simp only [HOP.out]
       exact h9.2
 · have d1:decide ((1:Int)<=xo)=false:=decide_eq_false h1
   have HOP:=hid (show opS xo=w_ask from op_none (Or.inl (by omega)))
   go_enter Tryz.func122,Tryz.ntmps122
   go_upto_region 3 with (fail)
   clear k0 y1 d1 h1
   rw [HOP.out] at HLN
   refine wp_region_loose2 [([0,1,2,3,4,5,6,7,8,9,10,11,12],13),([],14)] (Below w.heap.size w) (Below w.heap.size w) (by kernel_rfl) (by kernel_rfl) (by kernel_rfl) (fun z1 z2 h b=>h.trans (b.mono h.size)) (Below.drew b0R) ?_
   apply wpSegs_cons (Below w.heap.size w) (BSl w [xc,w_ask,textV ⟨xk,xn,xs⟩]) (fun _ h=>h) (fun _ h=>h)
   case hq =>
    intro z1 hz1
    have ne:Nonempty (Wld (Below z1.heap.size z1)):=⟨⟨z1,Below.refl _ _⟩⟩
    have B1:=fun x:Wld (Below z1.heap.size z1)=>hz1.trans (x.good.mono hz1.size)
    have x0:=fun x:Wld (Below z1.heap.size z1)=>jC ((((Below.refl w.heap.size w).trans ((B1 x).mono (Below.refl w.heap.size w).size)).block _ (jB HP.out)).trans HP.out) 0
    have x1:=fun x:Wld (Below z1.heap.size z1)=>jC ((((Below.refl w.heap.size w).trans ((B1 x).mono (Below.refl w.heap.size w).size)).block _ (jB HV.out)).trans HV.out) 0
    have x2:=fun x:Wld (Below z1.heap.size z1)=>(((Below.refl w.heap.size w).trans ((B1 x).mono (Below.refl w.heap.size w).size)).cell (p:=⟨g,o+i * 5,none⟩) HG.out).trans CX.out.1
    have x3:=fun x:Wld (Below z1.heap.size z1)=>(((Below.refl w.heap.size w).trans ((B1 x).mono (Below.refl w.heap.size w).size)).cell (p:=⟨g,o+i * 5+2,none⟩) HG.out).trans CX.out.2.2.1
    have x4:=fun x:Wld (Below z1.heap.size z1)=>(((Below.refl w.heap.size w).trans ((B1 x).mono (Below.refl w.heap.size w).size)).cell (p:=⟨g,o+i * 5+3,none⟩) HG.out).trans CX.out.2.2.2.1
    have x5:=fun x:Wld (Below z1.heap.size z1)=>(((Below.refl w.heap.size w).trans ((B1 x).mono (Below.refl w.heap.size w).size)).cell (p:=⟨g,o+i * 5+4,none⟩) HG.out).trans CX.out.2.2.2.2
    have HCON:=hid (show ∀ x:Wld (Below z1.heap.size z1),Calls Tryz.prog 73 #[.agg #[.int .i64 xk,.int .i64 xn,.string xs]] x.val (fun e w'=>e=.returned (.string (textV ⟨xk,xn,xs⟩))/\Below x.val.heap.size x.val w') from fun x=>text_any ⟨xk,xn,xs⟩ HVO.out (H.out.below (B1 x)).env)
    simp only [List.getElem?_toArray,List.getElem?_cons_zero] at x0 x1
    simp only [pickOps,List.getElem?_cons_zero,List.getElem?_cons_succ]
    apply quiet_hide
    intro KE hKE
    clear B1
    repeat (go_big_quiet_step ((go_at_call 73;(with_reducible refine Calls.mono (HCON.out _) ?_);rintro e w3 ⟨rfl,b3⟩;exact ⟨rfl,class_below _ b3 (jR _)⟩)))
    refine wpQuiet_nil ?_
    exact hKE _ rfl
   case ho=>rfl
   case hop=>rfl
   case hw=>kernel_rfl
   case hD=>exact fun u z1 z2 h hb=>h.below hb
   case hDJ=>exact fun _ u w' h=>h.after
   case hlo =>
    intro wa ba
    go_wp2_with fail
    exact bsl_new ba
   case hrest =>
    rintro u z1 ⟨g,rfl,-⟩
    simp only [Act.put,List.setIfInBounds_toArray,List.set_cons_succ,List.set_cons_zero]
    apply wpSegs_call (BSl w [xc,w_ask,textV ⟨xk,xn,xs⟩] (.slice (some ⟨g,0,none⟩) ([xc,w_ask,textV ⟨xk,xn,xs⟩]:List ByteArray).length ([xc,w_ask,textV ⟨xk,xn,xs⟩]:List ByteArray).length)) (fun _ w'=>Kept X w w'/\QAt X b (acc ++ [xc,w_ask,textV ⟨xk,xn,xs⟩]) w') (fun _ h=>h.after) (fun _ h=>h)
    case hq=>exact fun _ _=>rfl
    case ho=>rfl
    case hw=>kernel_rfl
    case hD=>exact fun u z1 z2 h hb=>⟨h.1.trans (Below.kept hb _),h.2.below hb⟩
    case hDJ=>exact fun h=>absurd rfl h
    case hlo =>
     intro z1 hz1
     refine loose_call (args:=#[.pointer (some ⟨b,0,none⟩),.slice (some ⟨g,0,none⟩) ([xc,w_ask,textV ⟨xk,xn,xs⟩]:List ByteArray).length ([xc,w_ask,textV ⟨xk,xn,xs⟩]:List ByteArray).length]) (run_call_func rfl (by kernel_rfl) HEN.out) ((add_at H.out hz1 (by simp) HLN.out).mono ?_)
     rintro e z2 ⟨rfl,k2,q2⟩
     exact ⟨_,rfl,k2,q2⟩
    case hrest =>
     rintro _ z1 -
     simp only [Act.put]
     refine wpSegs_nil fun w9 h9=>?_
     go_end0
     rw [HPST.out]
     refine ⟨rfl,h9.1,?_⟩
     unfold condP
     simp only [HOP.out]
     exact h9.2
theorem pwhere_any {X:Nat->Prop} {b:Nat} {acc:List ByteArray} {l:List Cond} {va:Value} {w:World} (h:QAt X b acc w) (hl:SlV condR (fun k=>k<b) w va l) (ho:∀ c ∈ l,ValOk c.val) (hacc:acc.length<=90000) (hn:l.length<=1000) :
 Calls Tryz.prog 75 #[.pointer (some ⟨b,0,none⟩),va] w (QStep X b (acc ++ whereP l) w):=by
 obtain ⟨ca,cc,rfl⟩:=hl.shape
 obtain ⟨n,hN⟩:∃ n,n=l.length:=⟨_,rfl⟩
 have HN:=hid hN
 rw [<- hN] at hl hn ⊢
 clear hN
 by_cases h0:n=0
 · have HEM:=hid (show l.isEmpty=true by rw [List.isEmpty_iff];exact List.eq_nil_of_length_eq_zero (by rw [<- HN.out];exact h0))
   obtain ⟨Pst,hPst⟩:∃ Pst,Pst=QStep X b (acc ++ whereP l) w:=⟨_,rfl⟩
   have HPST:=hid hPst
   rw [<- hPst]
   clear hPst
   obtain ⟨W1,hW1⟩:∃ W,w.alloc (.cells #[.pointer (some ⟨b,0,none⟩)] 102)=W:=⟨_,rfl⟩
   have h1s:W1.heap.size=w.heap.size+1:=by rw [<- hW1];simp
   obtain ⟨W2,hW2⟩:∃ W,W1.alloc (.cells #[.slice ca n cc] 31)=W:=⟨_,rfl⟩
   have h2s:W2.heap.size=w.heap.size+2:=by rw [<- hW2];simp [h1s]
   have b2:Below w.heap.size w W2:=by rw [<- hW2,<- hW1];exact ((b0R).alloc (jR _) _).alloc (by simp) _
   have hb0:W2.heap[w.heap.size]? = some (.cells #[.pointer (some ⟨b,0,none⟩)] 102 (0,0)):=by rw [<- hW2,heap_alloc_old _ _ (by omega),<- hW1];exact heap_alloc_new _ _
   have hb1:W2.heap[w.heap.size+1]? = some (.cells #[.slice ca n cc] 31 (0,0)):=by rw [<- hW2,<- h1s];exact heap_alloc_new _ _
   obtain ⟨Y,hY⟩:∃ Y:Nat->Prop,Y=fun k=>X k \/ (w.heap.size<=k/\k<W2.heap.size):=⟨_,rfl⟩
   have Q2:=hid (show QAt Y b acc W2 by rw [hY];exact h.more b2 (fun _ hk=>Or.inl hk) (fun _ hk=>hk))
   have ZQ:=hid (show ∀ l e w',QStep Y b l W2 e w'->QStep X b l w e w' from fun l e w' s=>QStep.with h b2 (by rw [<- hY];exact s))
   have HK2:=hid (Kept.refl Y W2)
   have YO:=hid (show ∀ k,k<b->Y k from fun k hk=>by rw [hY];exact Or.inl (h.old k hk))
   have PB:=hid (show ∀ w',Kept Y W2 w'->w'.heap[w.heap.size]? = some (.cells #[.pointer (some ⟨b,0,none⟩)] 102 (0,0)) from fun w' k=>(k.block _ (by rw [hY];exact Or.inr ⟨by omega,by omega⟩) (jB hb0)).trans hb0)
   have SB:=hid (show ∀ w',Kept Y W2 w'->w'.heap[w.heap.size+1]? = some (.cells #[.slice ca n cc] 31 (0,0)) from fun w' k=>(k.block _ (by rw [hY];exact Or.inr ⟨by omega,by omega⟩) (jB hb1)).trans hb1)
   have LK:=hid (show ∀ w',Kept Y W2 w'->SlV condR (fun k=>k<b) w' (.slice ca n cc) l from fun w' k=>(hl.below b2).keep fun j hj hlt=>k.block j (YO.out j hj) hlt)
   have HO:=hid ho
   clear h hl b2 hb0 hb1 hY ho
   have d0:decide (0<n)=false:=decide_eq_false (by omega)
   clear h0
   have z0:=jC (PB.out _ HK2.out) 0
   have z1:=jC (SB.out _ HK2.out) 0
   simp only [gT,gZ,gS] at z0 z1
   go_enter Tryz.func75,Tryz.ntmps75
   have con:=all_any (m:=3) (bt:=w_and) (f:=condP) (L:=l) (c0:=.pointer (some ⟨w.heap.size+1,0,none⟩)) (c1:=.pointer (some ⟨w.heap.size,0,none⟩)) Q2.out (enters_of Tryz.func122 (by kernel_rfl) rfl) (fun i hi a w1 qa k hb=>pwhere1_any qa (PB.out _ (HK2.out.trans k)) (SB.out _ (HK2.out.trans k)) (LK.out _ (HK2.out.trans k)) HO.out i hi hb) (fun _ _=>jR 3) (by decide) (by omega) (by rw [<- HN.out];exact hn)
   rw [<- HN.out] at con
   go_wp2_with fail
   refine con.mono ?_
   rintro e w9 s9
   obtain ⟨rfl,k9,q9⟩:=s9
   have N9:=hid (show _/\_ from ⟨HK2.out.trans k9,q9⟩)
   clear con k9 q9 z0 z1
   go_wp2_with fail
   go_end0
   rw [HPST.out]
   refine ZQ.out _ _ _ ⟨rfl,N9.out.1,?_⟩
   have e:acc ++ sepP w_and condP l=acc ++ whereP l:=by
    unfold whereP
    rw [HEM.out,if_pos rfl,List.nil_append,condP_eq]
   rw [<- e]
   exact N9.out.2
 · have HEM:=hid (show l.isEmpty=false by
    cases l with
    | nil=>exact absurd HN.out h0
    | cons _ _=>rfl)
   obtain ⟨Pst,hPst⟩:∃ Pst,Pst=QStep X b (acc ++ whereP l) w:=⟨_,rfl⟩
   have HPST:=hid hPst
   rw [<- hPst]
   clear hPst
   obtain ⟨W1,hW1⟩:∃ W,w.alloc (.cells #[.pointer (some ⟨b,0,none⟩)] 102)=W:=⟨_,rfl⟩
   have h1s:W1.heap.size=w.heap.size+1:=by rw [<- hW1];simp
   obtain ⟨W2,hW2⟩:∃ W,W1.alloc (.cells #[.slice ca n cc] 31)=W:=⟨_,rfl⟩
   have h2s:W2.heap.size=w.heap.size+2:=by rw [<- hW2];simp [h1s]
   have b2:Below w.heap.size w W2:=by rw [<- hW2,<- hW1];exact ((b0R).alloc (jR _) _).alloc (by simp) _
   have hb0:W2.heap[w.heap.size]? = some (.cells #[.pointer (some ⟨b,0,none⟩)] 102 (0,0)):=by rw [<- hW2,heap_alloc_old _ _ (by omega),<- hW1];exact heap_alloc_new _ _
   have hb1:W2.heap[w.heap.size+1]? = some (.cells #[.slice ca n cc] 31 (0,0)):=by rw [<- hW2,<- h1s];exact heap_alloc_new _ _
   obtain ⟨Y,hY⟩:∃ Y:Nat->Prop,Y=fun k=>X k \/ (w.heap.size<=k/\k<W2.heap.size):=⟨_,rfl⟩
   have Q2:=hid (show QAt Y b acc W2 by rw [hY];exact h.more b2 (fun _ hk=>Or.inl hk) (fun _ hk=>hk))
   have ZQ:=hid (show ∀ l e w',QStep Y b l W2 e w'->QStep X b l w e w' from fun l e w' s=>QStep.with h b2 (by rw [<- hY];exact s))
   have HK2:=hid (Kept.refl Y W2)
   have YO:=hid (show ∀ k,k<b->Y k from fun k hk=>by rw [hY];exact Or.inl (h.old k hk))
   have PB:=hid (show ∀ w',Kept Y W2 w'->w'.heap[w.heap.size]? = some (.cells #[.pointer (some ⟨b,0,none⟩)] 102 (0,0)) from fun w' k=>(k.block _ (by rw [hY];exact Or.inr ⟨by omega,by omega⟩) (jB hb0)).trans hb0)
   have SB:=hid (show ∀ w',Kept Y W2 w'->w'.heap[w.heap.size+1]? = some (.cells #[.slice ca n cc] 31 (0,0)) from fun w' k=>(k.block _ (by rw [hY];exact Or.inr ⟨by omega,by omega⟩) (jB hb1)).trans hb1)
   have LK:=hid (show ∀ w',Kept Y W2 w'->SlV condR (fun k=>k<b) w' (.slice ca n cc) l from fun w' k=>(hl.below b2).keep fun j hj hlt=>k.block j (YO.out j hj) hlt)
   have HO:=hid ho
   clear h hl b2 hb0 hb1 hY ho
   have d0:decide (0<n)=true:=decide_eq_true (by omega)
   clear h0
   have z0:=jC (PB.out _ HK2.out) 0
   have z1:=jC (SB.out _ HK2.out) 0
   simp only [gT,gZ,gS] at z0 z1
   go_enter Tryz.func75,Tryz.ntmps75
   have con:=add_words (w1:=W2.alloc (.cells (([w_where]:List ByteArray).map Value.string).toArray 9)) [w_where] (by simp) Q2.out rfl (by show acc.length+1<=1000000;omega)
   rw [h2s] at con
   go_wp2_with fail
   refine con.mono ?_
   rintro e w3 ⟨rfl,k3,q3⟩
   obtain ⟨A3,hA3⟩:∃ A,A=acc ++ ([w_where]:List ByteArray):=⟨_,rfl⟩
   have hL3:A3.length<=90001:=by rw [hA3,List.length_append];show acc.length+1<=90001;omega
   rw [<- hA3] at q3
   have EA3:=hid hA3
   have HK3:=hid (HK2.out.trans k3)
   have Q3:=hid q3
   clear con k3 q3 hA3
   clear z0 z1
   have z0:=jC (PB.out _ HK3.out) 0
   have z1:=jC (SB.out _ HK3.out) 0
   simp only [gT,gZ,gS] at z0 z1
   have con:=all_any (m:=3) (bt:=w_and) (f:=condP) (L:=l) (c0:=.pointer (some ⟨w.heap.size+1,0,none⟩)) (c1:=.pointer (some ⟨w.heap.size,0,none⟩)) Q3.out (enters_of Tryz.func122 (by kernel_rfl) rfl) (fun i hi a w1 qa k hb=>pwhere1_any qa (PB.out _ (HK3.out.trans k)) (SB.out _ (HK3.out.trans k)) (LK.out _ (HK3.out.trans k)) HO.out i hi hb) (fun _ _=>jR 3) (by decide) (by omega) (by rw [<- HN.out];exact hn)
   rw [<- HN.out] at con
   go_wp2_with fail
   refine con.mono ?_
   rintro e w9 s9
   obtain ⟨rfl,k9,q9⟩:=s9
   have N9:=hid (show _/\_ from ⟨HK3.out.trans k9,q9⟩)
   clear con k9 q9 z0 z1
   go_wp2_with fail
   go_end0
   rw [HPST.out]
   refine ZQ.out _ _ _ ⟨rfl,N9.out.1,?_⟩
   have e:A3 ++ sepP w_and condP l=acc ++ whereP l:=by
    unfold whereP
    rw [HEM.out,if_neg Bool.false_ne_true,condP_eq,EA3.out,List.append_assoc]
   rw [<- e]
   exact N9.out.2
end
section
open Go.RowKit
structure StOk (s:Stmt):Prop where
 short:s.short 1000
 row:∀ v ∈ s.row,ValOk v
 sets:∀ x ∈ s.sets,ValOk x.val
 wher:∀ c ∈ s.wher,ValOk c.val
 names:∀ x ∈ s.names,x.size<=4294967000
 agg:s.agg<=9223372036854775807
 n:-9223372036854775808<=s.n/\s.n<=9223372036854775807
theorem SlsAt.shapes {p:Nat->Prop} {w:World} {L:Lists} {s:Stmt} (h:SlsAt p w L s):(∃ a c,L.cols=.slice a s.cols.length c)/\(∃ a c,L.names=.slice a s.names.length c)/\(∃ a c,L.row=.slice a s.row.length c)/\(∃ a c,L.sets=.slice a s.sets.length c)/\(∃ a c,L.wher=.slice a s.wher.length c)/\(∃ a c,L.order=.slice a s.order.length c) :=
 ⟨h.cols.shape,h.names.shape,h.row.shape,h.sets.shape,h.wher.shape,h.order.shape⟩
theorem itoa_any {n:Int} (hn:-9223372036854775808<=n/\n<=9223372036854775807) {w:World} (he:EnvL w) :
 Calls Tryz.prog 123 #[.int .i64 n] w fun e w'=>e=.returned (.string ⟨⟨Lib.itoa n⟩⟩)/\Below w.heap.size w w':=by
 refine (Tryz.strconv_Itoa n hn.1 hn.2 w he.pow).mono ?_
 rintro e w' ⟨h1,k,os,rfl⟩
 exact ⟨h1,Lib.below_grow _ _ (jR _) k os⟩
def modeW (j:Nat):ByteArray:=match j with|0=>⟨#[]⟩|1=>⟨#[115,110,97,112,115,104,111,116]⟩|2=>⟨#[115,101,114,105,97,108,105,115,97,98,108,101]⟩|_=>⟨#[63]⟩
def modeL (j:Nat):List ByteArray:=match j with|0=>[]|1=>[w_snapshot]|2=>[w_serialisable]|_=>[w_ask]
theorem mode_word {j:Nat} (hj:j<4):(#[Value.string ⟨#[]⟩,.string ⟨#[115,110,97,112,115,104,111,116]⟩,.string ⟨#[115,101,114,105,97,108,105,115,97,98,108,101]⟩,.string ⟨#[63]⟩]:Array Value)[j]? = some (.string (modeW j)):=by
 rcases (show j=0 \/ j=1 \/ j=2 \/ j=3 by omega) with rfl|rfl|rfl|rfl <;> rfl
theorem mode_len (j:Nat):(modeL j).length<=1:=by
 unfold modeL
 split <;> simp
theorem mode_fields {j:Nat} (hj:j<4):(Lib.fields (modeW j).data.toList).map (fun l=>(⟨l.toArray⟩:ByteArray))=modeL j/\(modeW j).size<4294967281/\(modeW j).data.toList.all (fun b=>decide (b.toNat<128))=true:=by
 rcases (show j=0 \/ j=1 \/ j=2 \/ j=3 by omega) with rfl|rfl|rfl|rfl <;> exact ⟨by decide +kernel,by decide +kernel,by decide +kernel⟩
theorem mode_eq_p {m:Int} {j:Nat} {acc u v:List ByteArray} (hj:m % 4=(j:Int)) (c4:(if m / 4 % 2=0 then ([]:List ByteArray) else [w_read,w_only])=u) (c8:(if m / 8 % 2=0 then ([]:List ByteArray) else [w_deferrable])=v) :
 acc ++ [w_begin] ++ modeL j ++ u ++ v=acc ++ ([w_begin] ++ modeP m):=by
 unfold modeP
 rw [hj,c4,c8]
 clear hj
 match j with
 | 0=>show acc ++ [w_begin] ++ modeL 0 ++ u ++ v=acc ++ ([w_begin] ++ (modeL 0 ++ u ++ v));simp only [List.append_assoc]
 | 1=>show acc ++ [w_begin] ++ modeL 1 ++ u ++ v=acc ++ ([w_begin] ++ (modeL 1 ++ u ++ v));simp only [List.append_assoc]
 | 2=>show acc ++ [w_begin] ++ modeL 2 ++ u ++ v=acc ++ ([w_begin] ++ (modeL 2 ++ u ++ v));simp only [List.append_assoc]
 | k+3=>show acc ++ [w_begin] ++ modeL (k+3) ++ u ++ v=acc ++ ([w_begin] ++ (modeL (k+3) ++ u ++ v));simp only [List.append_assoc]
def valP (v:Val):List ByteArray:=[textV v]
theorem setP_len {L:List SetV}:∀ x ∈ L,(setP x).length<=5:=by
 intro x _
 unfold setP
 simp only [List.length_append,List.length_cons,List.length_nil]
 split <;> simp
def aggL5:List ByteArray:=[w_count,w_sum,w_min,w_max,w_ask]
theorem agg_size (n:Int):(aggS n).size<=10:=by
 unfold aggS
 split <;> decide
theorem agg_word {m:Nat} (h:m<4):((aggL5.map Value.string).toArray)[m]? = some (.string (aggS ((m:Int)+1))):=by
 rcases (show m=0 \/ m=1 \/ m=2 \/ m=3 by omega) with rfl|rfl|rfl|rfl <;> rfl
theorem agg_last {m:Nat} (h:¬ m<4):((aggL5.map Value.string).toArray)[4]? = some (.string (aggS ((m:Int)+1))):=by
 have e:aggS ((m:Int)+1)=w_ask:=by
  unfold aggS
  split <;> first|omega|rfl
 rw [e];rfl
theorem names_len {l:List ByteArray} (h:l.length<=1000):(namesP l).length<=2000:=by
 have h1:=sep_len w_comma (fun x:ByteArray=>[x]) 1 l (fun _ _=>jR 1)
 show (sepP w_comma (fun x:ByteArray=>[x]) l).length<=2000
 omega
theorem where_len {l:List Cond} (h:l.length<=1000):(whereP l).length<=4001:=by
 have h1:=sep_len w_and condP 3 l (fun _ _=>jR 3)
 have h2:whereP l=(if l.isEmpty=true then [] else [w_where]) ++ sepP w_and condP l:=rfl
 rw [h2,List.length_append]
 have h3:(if l.isEmpty=true then ([]:List ByteArray) else [w_where]).length<=1:=by split <;> simp
 omega
end
end Go.Proofs.YtjcpccadmcglgaaGreatDoor
