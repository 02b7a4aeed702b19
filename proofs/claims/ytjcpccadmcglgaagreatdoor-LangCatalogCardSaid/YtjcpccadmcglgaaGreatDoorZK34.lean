/- caught: a panic with trouble becomes the two results. -/
import Derived.Test.YtjcpccadmcglgaaGreatDoorZK31
import Derived.Defers
import Derived.Recover
set_option linter.unusedVariables false
set_option linter.unusedSimpArgs false
set_option maxRecDepth 100000
set_option maxHeartbeats 64000000
namespace Go.Proofs.YtjcpccadmcglgaaGreatDoor
open Go.Lib (hid)
section
open Go.RowKit
theorem catch_idle (p q:Addr) (w:World) :
 CallsD Tryz.prog 37 #[.pointer (some p),.pointer (some q)] .returning w fun e u' w'=>e=.returned (.tuple #[])/\u'=.returning/\w'=w:=by
 refine callsD_of_wpS Tryz.func37 rfl fun c₀ cs hu=>?_
 apply wpS_seq
 apply wpS_region
 simp [wpOpsS,go_sem,recoverD,hu,Tryz.ntmps37,Exit.thenS]
 refine wpS_of_wp ?_
 obtain ⟨Q,hQ⟩:∃ Q:Exit->Act->World->Prop,Q=fun e a' w'=>bodyPostS Tryz.prog Tryz.f37 c₀ cs (fun e u' w'=>e=.returned (.tuple #[])/\u'=.returning/\w'=w) e a' (c₀ :: cs) w':=⟨_,rfl⟩
 have hne:∀ w,(binOp BinOp.eql 20 .nilIface .nilIface).run Tryz.prog w=.ok (.bool true) w:=fun _=>by kernel_rfl
 rw [<- hQ]
 show Code.wp Tryz.prog _ Q { tmps:=#[.pointer (some p),.pointer (some q),undef,undef,undef,.nilIface,undef,undef,undef,undef,undef,undef,undef,undef,undef],defers:=[] } w
 have HQ:=hid hQ
 clear hQ
 go_wp2_with fail
 rw [HQ.out]
 exact ⟨rfl,.returning,by cases c₀;cases hu;rfl,.tuple #[],results_none rfl _ _ _,rfl,rfl,rfl⟩
theorem catch_hit (er:PErr) {qa qe:Nat} {va ve:Value} {w:World} (ha:w.heap[qa]? = some (.cells #[va] 3 (0,0))) (he:w.heap[qe]? = some (.cells #[ve] 40 (0,0))) (hne:qa ≠ qe) :
 CallsD Tryz.prog 37 #[.pointer (some ⟨qa,0,none⟩),.pointer (some ⟨qe,0,none⟩)] (.panicking [{ v:=.iface 108 (.agg #[.int .i64 er.1,.int .i64 er.2]),recovered:=false }]) w fun e u' w' =>
  e=.returned (.tuple #[])/\settle u'=.returning/\w'.heap[qa]? = some (.cells #[.int .i64 er.1] 3 (0,0))/\w'.heap[qe]? = some (.cells #[.int .i64 er.2] 40 (0,0))/\Kept (fun k=>k ≠ qa/\k ≠ qe) w w':=by
 obtain ⟨R,hR⟩:∃ R:Ending->FrameMode->World->Prop,R=fun e u' w'=>e=.returned (.tuple #[])/\settle u'=.returning/\w'.heap[qa]? = some (.cells #[.int .i64 er.1] 3 (0,0))/\w'.heap[qe]? = some (.cells #[.int .i64 er.2] 40 (0,0))/\Kept (fun k=>k ≠ qa/\k ≠ qe) w w':=⟨_,rfl⟩
 rw [<- hR]
 have HR:=hid hR
 clear hR
 obtain ⟨a1,a2⟩:=er
 obtain ⟨z,hz⟩:∃ z:Int,z=a1:=⟨_,rfl⟩
 simp only [<- hz] at HR ⊢
 clear hz
 obtain ⟨cf,hcf⟩:∃ x:FrameMode,x=.panicking [{ v:=.iface 108 (.agg #[.int .i64 z,.int .i64 a2]),recovered:=true }]:=⟨_,rfl⟩
 refine callsD_of_wpS Tryz.func37 rfl fun c₀ cs hu=>?_
 apply wpS_seq
 apply wpS_region
 simp [wpOpsS,go_sem,recoverD,hu,Tryz.ntmps37,Exit.thenS]
 rw [<- hcf]
 refine wpS_of_wp ?_
 obtain ⟨Q,hQ⟩:∃ Q:Exit->Act->World->Prop,Q=fun e a' w'=>bodyPostS Tryz.prog Tryz.f37 c₀ cs R e a' ({ fn:=c₀.fn,tmps:=c₀.tmps,todo:=c₀.todo,defers:=c₀.defers,mode:=cf,kind:=c₀.kind,roundOf:=c₀.roundOf } :: cs) w':=⟨_,rfl⟩
 rw [<- hQ]
 show Code.wp Tryz.prog _ Q { tmps:=#[.pointer (some ⟨qa,0,none⟩),.pointer (some ⟨qe,0,none⟩),undef,undef,undef,.iface 108 (.agg #[.int .i64 z,.int .i64 a2]),undef,undef,undef,undef,undef,undef,undef,undef,undef],defers:=[] } w
 have HQ:=hid hQ
 clear hQ
 obtain ⟨W,hW⟩:∃ W,w.alloc (.cells #[.int .i64 z,.int .i64 a2] 108)=W:=⟨_,rfl⟩
 have hne0:∀ w,(binOp BinOp.eql 20 (.iface 108 (.agg #[.int .i64 z,.int .i64 a2])) .nilIface).run Tryz.prog w=.ok (.bool false) w:=fun _=>by kernel_rfl
 have hta:∀ w,(Instr.typeAssert (.iface 108 (.agg #[.int .i64 z,.int .i64 a2])) 20 108 true).run Tryz.prog w=.ok (.tuple #[.agg #[.int .i64 z,.int .i64 a2],.bool true]) w:=fun _=>by kernel_rfl
 go_upto_region 7 with (fail)
 have bW:Below w.heap.size w W:=by rw [<- hW];exact (b0R).alloc (jR _) _
 have ht:W.heap[w.heap.size]? = some (.cells #[.int .i64 z,.int .i64 a2] 108 (0,0)):=by rw [<- hW];exact heap_alloc_new _ _
 have hla:=jB ha
 have hle:=jB he
 have HT:=hid ht
 have HA:=hid ((bW.block _ hla).trans ha)
 have HE:=hid ((bW.block _ hle).trans he)
 have HB:=hid bW
 have HN:=hid (show qa ≠ qe/\qa ≠ w.heap.size/\qe ≠ w.heap.size from ⟨hne,by omega,by omega⟩)
 clear hW bW ht hla hle ha he hne hne0 hta
 refine wp_region_loose2 [([0,1,2,3],4),([],5)] (fun w'=>w'.heap[w.heap.size]? = some (.cells #[.int .i64 z,.int .i64 a2] 108 (0,0))) (Below W.heap.size W) (by kernel_rfl) (by kernel_rfl) (by kernel_rfl) (fun w1 w2 h b=>h.trans (b.mono h.size)) (Below.drew b0R) ?_
 apply wpSegs_cons (fun w'=>w'.heap[w.heap.size]? = some (.cells #[.int .i64 z,.int .i64 a2] 108 (0,0))) (fun _ w'=>w'.heap[qa]? = some (.cells #[.int .i64 z] 3 (0,0))/\w'.heap[qe]? = some (.cells #[ve] 40 (0,0))/\w'.heap[w.heap.size]? = some (.cells #[.int .i64 z,.int .i64 a2] 108 (0,0))/\Kept (fun k=>k ≠ qa/\k ≠ qe) w w') (fun _ h=>h) (fun w' h=>(h.block _ (jB HT.out)).trans HT.out)
 case hq =>
  intro z1 hz1
  have ne:Nonempty (Wld (Below z1.heap.size z1)):=⟨⟨z1,Below.refl _ _⟩⟩
  have c0:=fun x:Wld (Below z1.heap.size z1)=>jC ((x.good.block _ (jB hz1)).trans hz1) 0
  have c1:=fun x:Wld (Below z1.heap.size z1)=>jC ((x.good.block _ (jB hz1)).trans hz1) 1
  simp only [gT,gZ,gS] at c0 c1
  simp only [pickOps,List.getElem?_cons_zero,List.getElem?_cons_succ]
  apply quiet_hide
  intro KE hKE
  repeat (go_big_quiet_step (fail))
  refine wpQuiet_nil ?_
  exact hKE _ rfl
 case ho=>rfl
 case hop=>rfl
 case hw=>kernel_rfl
 case hD=>exact fun u w1 w2 h hb=>⟨(hb.block _ (jB h.1)).trans h.1,(hb.block _ (jB h.2.1)).trans h.2.1,(hb.block _ (jB h.2.2.1)).trans h.2.2.1,h.2.2.2.trans (Below.kept hb _)⟩
 case hDJ=>exact fun _ u w' h=>h.2.2.1
 case hlo =>
  intro wa ba
  have h1:=(ba.block _ (jB HA.out)).trans HA.out
  have cx:=jC h1 0
  have fx:=free_of h1 0
  simp only [List.getElem?_toArray,List.getElem?_cons_zero] at cx
  have H1:=hid h1
  have BA:=hid ba
  clear h1 ba
  go_wp2_with fail
  have g:=grown_set wa qa 0 (.int .i64 z)
  have k:∀ q,q ≠ qa->∀ {o},wa.heap[q]? = some o->(wa.setCell ⟨qa,0,none⟩ (.int .i64 z)).heap[q]? = some o:=fun q hq o ho=>(g.block _ (jB ho) (by simpa using hq)).trans ho
  exact ⟨heap_setCell_same wa _ 0 _ _ _ H1.out,k _ (Ne.symm HN.out.1) ((BA.out.block _ (jB HE.out)).trans HE.out),k _ (Ne.symm HN.out.2.1) ((BA.out.block _ (jB HT.out)).trans HT.out),((Below.kept HB.out _).trans (Below.kept BA.out _)).trans (grown_kept g fun k e=>by cases e;exact fun h=>h.1 rfl)⟩
 case hrest =>
  rintro u w9 h9
  simp only [Act.put,List.setIfInBounds_toArray,List.set_cons_succ,List.set_cons_zero]
  apply wpSegs_cons0 (fun _ w'=>w'.heap[qa]? = some (.cells #[.int .i64 z] 3 (0,0))/\w'.heap[qe]? = some (.cells #[.int .i64 a2] 40 (0,0))/\Kept (fun k=>k ≠ qa/\k ≠ qe) w w')
  case hCI=>exact fun w' h=>h.2.2.1
  case hDI=>exact fun h=>absurd rfl h
  case ho=>rfl
  case hop=>rfl
  case hw=>kernel_rfl
  case hD=>exact fun u w1 w2 h hb=>⟨(hb.block _ (jB h.1)).trans h.1,(hb.block _ (jB h.2.1)).trans h.2.1,h.2.2.trans (Below.kept hb _)⟩
  case hlo =>
   rintro wa ⟨h1,h2,h3,h4⟩
   have cx:=jC h2 0
   have fx:=free_of h2 0
   simp only [List.getElem?_toArray,List.getElem?_cons_zero] at cx
   have H1:=hid h1
   have H2:=hid h2
   have H4:=hid h4
   clear h1 h2 h3 h4
   go_wp2_with fail
   have g:=grown_set wa qe 0 (.int .i64 a2)
   exact ⟨(g.block _ (jB H1.out) (by simpa using HN.out.1)).trans H1.out,heap_setCell_same wa _ 0 _ _ _ H2.out,H4.out.trans (grown_kept g fun k e=>by cases e;exact fun h=>h.2 rfl)⟩
  case hrest =>
   rintro u9 w9x h9x
   refine wpSegs_nil fun w9 h9=>?_
   have H9:=hid h9
   clear h9 h9x
   go_wp2_with fail
   rw [HQ.out]
   refine ⟨rfl,cf,rfl,.tuple #[],results_none rfl _ _ _,?_⟩
   rw [HR.out]
   exact ⟨rfl,by rw [hcf];rfl,H9.out⟩
def CA (w w':World) (x y:Int):Prop:=w'.heap[w.heap.size]? = some (.cells #[.int .i64 x] 3 (0,0))/\w'.heap[w.heap.size+1]? = some (.cells #[.int .i64 y] 40 (0,0))
def CaughtPost (w:World) (Ok:World->Prop) (Er:PErr->World->Prop) (e:Ending) (w':World):Prop :=
 ∃ w2,Kept (fun k=>k ≠ w.heap.size/\k ≠ w.heap.size+1) w2 w'/\((e=.returned (.tuple #[.int .i64 0,.int .i64 0])/\Ok w2) \/ ∃ er:PErr,e=.returned (.tuple #[.int .i64 er.1,.int .i64 er.2])/\Er er w2)
theorem caught_any {g:FuncId} {caps:Array Value} {w:World} {Ok:World->Prop} {Er:PErr->World->Prop} (eg:∀ args w,(callFunc g args).run Tryz.prog w=.ok (.enter g args) w)
 (hcall:∀ w1,Below w.heap.size w w1->w1.heap.size=w.heap.size+2->CA w w1 0 0->Calls Tryz.prog g caps w1 fun e w2=>CA w w2 0 0/\((e=.returned (.tuple #[])/\Ok w2) \/ ∃ er,e=trouble er/\Er er w2)) :
 Calls Tryz.prog 15 #[.func (.func g) #[] caps] w fun e w'=>CaughtPost w Ok Er e w':=by
 have hmf:=hmf
 obtain ⟨Pst,hPst⟩:∃ Pst,Pst=CaughtPost w Ok Er:=⟨_,rfl⟩
 have HPST:=hid hPst
 rw [<- hPst]
 obtain ⟨W1,hW1⟩:∃ W,w.alloc (.cells #[.int .i64 0] 3)=W:=⟨_,rfl⟩
 obtain ⟨W2,hW2⟩:∃ W,W1.alloc (.cells #[.int .i64 0] 40)=W:=⟨_,rfl⟩
 have h1s:W1.heap.size=w.heap.size+1:=by rw [<- hW1];simp
 have b2:Below w.heap.size w W2:=by rw [<- hW2,<- hW1];exact ((b0R).alloc (jR _) _).alloc (by simp) _
 have ca:CA w W2 0 0:=by
  constructor
  · rw [<- hW2,heap_alloc_old _ _ (by omega),<- hW1];exact heap_alloc_new _ _
  · rw [<- hW2,<- h1s];exact heap_alloc_new _ _
 have con:=hcall W2 b2 (by rw [<- hW2];simp [h1s]) ca
 clear hcall hPst b2 ca
 go_enter_defers Tryz.func15,Tryz.ntmps15
 go_wp2_with fail
 refine con.mono ?_
 rintro e w2 ⟨hc,⟨rfl,hok⟩|⟨er,rfl,her⟩⟩
 · have k0:=jC hc.1 0
   have f0:=free_of hc.1 0
   have k1:=jC hc.2 0
   have f1:=free_of hc.2 0
   simp only [List.getElem?_toArray,List.getElem?_cons_zero] at k0 k1
   have HC:=hid hc
   have HOK:=hid hok
   have s0:=setCell_id hc.1 (show (#[Value.int .i64 0]:Array Value)[0]? = some (.int .i64 0) from rfl)
   have s1:=setCell_id hc.2 (show (#[Value.int .i64 0]:Array Value)[0]? = some (.int .i64 0) from rfl)
   clear con hc hok hW1 hW2 h1s
   go_wp2_with fail
   refine leaves_cons (f:=37) (args:=#[.pointer (some ⟨w.heap.size,0,none⟩),.pointer (some ⟨w.heap.size+1,0,none⟩)]) (by simp) (by simp [go_sem]) ?_
   refine (catch_idle _ _ _).mono ?_
   rintro e u' w'' ⟨rfl,rfl,rfl⟩
   show ∃ v,_/\_
   refine ⟨.tuple #[.int .i64 0,.int .i64 0],by simp [results,Tryz.results15,go_sem,k0,k1],?_⟩
   rw [HPST.out]
   exact ⟨_,Kept.refl _ _,Or.inl ⟨rfl,HOK.out⟩⟩
 · have HC:=hid hc
   have HER:=hid her
   clear con hc her hW1 hW2 h1s
   go_wp2_with fail
   refine leaves_cons (f:=37) (args:=#[.pointer (some ⟨w.heap.size,0,none⟩),.pointer (some ⟨w.heap.size+1,0,none⟩)]) (by simp) (by simp [go_sem]) ?_
   refine (catch_hit er HC.out.1 HC.out.2 (by omega)).mono ?_
   rintro e u' w'' ⟨rfl,hs,h1,h2,h3⟩
   show Leaves _ _ _ _ [] (settle u') w''
   rw [hs]
   show ∃ v,_/\_
   have k0:=jC h1 0
   have k1:=jC h2 0
   simp only [List.getElem?_toArray,List.getElem?_cons_zero] at k0 k1
   refine ⟨.tuple #[.int .i64 er.1,.int .i64 er.2],by simp [results,Tryz.results15,go_sem,k0,k1],?_⟩
   rw [HPST.out]
   exact ⟨w2,h3,Or.inr ⟨er,rfl,HER.out⟩⟩
end
end Go.Proofs.YtjcpccadmcglgaaGreatDoor
