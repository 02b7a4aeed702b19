/- The frame of the laws of layer 18: the listed table of comparison functions lies as the ro. -/
import Derived.LaidMore
import Derived.HandedShaped
import Derived.Shelf.Vars
import Derived.Stop.Joined
import Derived.OpenShut
import Derived.Test.YtgemihkcihigpaaGreatDoorZD16
import Derived.Test.YtgemihkcihigpaaGreatDoorZD19
set_option linter.unusedVariables false
set_option linter.unusedSimpArgs false
set_option maxRecDepth 100000
set_option maxHeartbeats 64000000
namespace Go.Proofs.YtgemihkcihigpaaGreatDoor
section
open Go.ChangeShapes Go.WideShapes Go.ChangeAt Go.RowKit
theorem returns_laid {H:Type} {enc:TypeId × Value->H} {C:Checked} {os:Os} {f:FuncId} {fn:Func} {s:ChangeSpec} {apart fresh handsOn again:Bool} {laid:List (String × DataW Unit)}
 (own:ownKnob C.prog.godebug=none) (started:os.Started) (noInit:C.prog.inits.idxOf? f=none) (hfn:C.prog.funcs[f]? = some fn)
 (witness:∃ (w:World) (tape:Tape) (i:Input),w.os=os/\(w.forCall tape i).Shaped C.prog/\i.vars=[]/\Input.okWide C.prog (w.forCall tape i) .any w.heap.size f i /\
  ((s.pre enc C.prog fn [] apart (w.forCall tape i).memory i.args/\laidMetH C.prog laid (w.forCall tape i).memory)/\sizedMet enc C.prog fn (OpenSpec.ofChange s) apart (w.forCall tape i).memory i.args)/\({}:Assume).holds C.prog (lone (Frame.enter C.prog f i.args .normal) [] (w.forCall tape i)))
 (contract:∀ (W:World) (base:Nat) (args:Array Value) (ds gs:List (DataW H)) (before:List MemPlace),
  (∀ (j:Nat) t v,fn.params[j]? = some t->args[j]? = some v->Value.okWide C.prog W .any base t v) ->
  DataW.Whole enc C.prog fn.params.toList s.vars apart W args.toList ds gs before ->
  (DataW.weightsEach C.prog (fn.params.toList ++ s.plain.varTypes C.prog) (ds ++ gs)).all (·<=reachBytes)=true->laidMetH C.prog laid W->W.ShapedOpen C.prog ->
  Calls C.prog f args W fun e W'=>∃ v,e=.returned v/\s.post enc C.prog fn apart fresh handsOn again W args v W') :
 ReturnsInHanded {} C os f .any (fun w args=>(s.pre enc C.prog fn [] apart w args/\laidMetH C.prog laid w)/\sizedMet enc C.prog fn (OpenSpec.ofChange s) apart w args) (s.post enc C.prog fn apart fresh handsOn again) :=
 returnsInHanded_of_calls own started noInit witness fun w tape i _ shaped _ fits pre _=>by
  obtain ⟨_,_,_,fn2,hfn2,_,_,_,_,hval⟩:=fits
  obtain rfl:fn2=fn:=jI (hfn2.symm.trans hfn)
  obtain ⟨⟨⟨ds,gs,before,hw,_⟩,hl⟩,hz⟩:=pre
  refine Calls.mono (contract (w.forCall tape i) w.heap.size i.args ds gs before hval (DataW.Whole.of_heap (w':=w.forCall tape i) (by rfl) hw) (hz.weights hw) (laidMetH.of_heap (by rfl) hl) shaped) fun e W' h=>?_
  obtain ⟨v,rfl,hp⟩:=h
  exact ChangeSpec.post_blind hp
noncomputable def laidWorld (os:Os):World:=World.doorLaid Tryz.prog 400 os
theorem door_met (os:Os) (args:Array Value):laidMetH Tryz.prog Rows.plainPartsRow.laid ((laidWorld os).forCall (fun _ _=>0) ⟨#[],args,[]⟩).memory :=
 laidMetH_of_parts3 (fuel:=8) (laidMet_of_run' 8 (by kernel_rfl) (by kernel_rfl)) (by kernel_rfl) (by kernel_rfl)
theorem three_of {α:Type} {l:List α} (h:l.length=3):∃ x y z,l=[x,y,z]:=by
 match l,h with
 | [x,y,z],_=>exact ⟨x,y,z,rfl⟩
theorem kinds_of_laid {W:World} {l:List (String × DataW Unit)} (hx:("vintner/value.kinds",Rows.laid_vintner_value_kinds (H:=Unit)) ∈ l) (h:laidMetH Tryz.prog l W):KindsAt W:=by
 obtain ⟨g,t,cs,fuel,p,hg,ht,hv,hd⟩:=h.funcs (n:="vintner/value.kinds") hx
 obtain rfl:=jI ((show Tryz.prog.globalNamed "vintner/value.kinds"=some 0 by kernel_rfl).symm.trans hg)
 obtain rfl:=jI ((show (Tryz.prog.globals[0]?).map (·.type)=some 101 by kernel_rfl).symm.trans ht)
 have hd':DataW.trod (funcToken Tryz.prog) Tryz.prog W 0 (fun _=>true) true fuel 101 cs.toList=some (.agg [.held [118,105,110,116,110,101,114,47,118,97,108,117,101,46,107,105,110,100,115,36,49],.held [118,105,110,116,110,101,114,47,118,97,108,117,101,46,107,105,110,100,115,36,50],.held [118,105,110,116,110,101,114,47,118,97,108,117,101,46,107,105,110,100,115,36,51]],p):=hd
 obtain ⟨xs,m,rfl,hxs,hlen,hn,hel⟩:=DataW.trod_array Tryz.underlying101 hd'
 simp only [Prod.mk.injEq,DataW.agg.injEq] at hxs
 obtain ⟨hx1,-⟩:=hxs
 have hc1:Tryz.prog.cellsOf 62=1:=by kernel_rfl
 have hc3:Tryz.prog.cellsOf 101=3:=by kernel_rfl
 rw [hc3] at hlen
 rw [hc1] at hel
 obtain ⟨x0,x1,x2,rfl⟩:=three_of hn
 obtain ⟨l⟩:=cs
 obtain ⟨v0,v1,v2,rfl⟩:=three_of (l:=l) (by simpa using hlen)
 simp only [List.map_cons,List.map_nil,List.cons.injEq,and_true] at hx1
 obtain ⟨h0,h1,h2⟩:=hx1
 have e0:=hel 0 (by decide)
 have e1:=hel 1 (by decide)
 have e2:=hel 2 (by decide)
 simp at e0 e1 e2
 obtain ⟨d0,q0⟩:=x0
 obtain ⟨d1,q1⟩:=x1
 obtain ⟨d2,q2⟩:=x2
 simp only at h0 h1 h2
 subst h0 h1 h2
 have f0:=func_of_trod (f0:=197) Tryz.underlying62 (by kernel_rfl) e0
 have f1:=func_of_trod (f0:=198) Tryz.underlying62 (by kernel_rfl) e1
 have f2:=func_of_trod (f0:=200) Tryz.underlying62 (by kernel_rfl) e2
 subst f0 f1 f2
 exact ⟨World.var?_cell hg hv 0,World.var?_cell hg hv 1,World.var?_cell hg hv 2⟩
end
end Go.Proofs.YtgemihkcihigpaaGreatDoor
