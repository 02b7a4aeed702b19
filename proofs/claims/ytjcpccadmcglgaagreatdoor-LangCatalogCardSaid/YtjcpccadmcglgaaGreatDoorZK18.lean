/- The frame of the laws of layer 17: the library's tables lie as the row says. -/
import Derived.Test.YtjcpccadmcglgaaGreatDoorZK16
import Derived.Test.YtjcpccadmcglgaaGreatDoorZK15
import Derived.LaidMore
import Derived.LaidOnce
import Derived.LaidSub
import Derived.MakeChecks
import Derived.HandedShaped
import Derived.Shelf.Vars
import Derived.Stop.Joined
import Derived.OpenShut
set_option linter.unusedVariables false
set_option linter.unusedSimpArgs false
set_option maxRecDepth 100000
set_option maxHeartbeats 64000000
namespace Go.Proofs.YtjcpccadmcglgaaGreatDoor
section
open Go.ChangeShapes Go.WideShapes Go.ChangeAt Go.RowKit
theorem returns_laid {H:Type} {enc:TypeId × Value->H} {C:Checked} {os:Os} {f:FuncId} {fn:Func} {s:ChangeSpec} {apart fresh handsOn again:Bool} {laid:List (String × DataW Unit)}
 (own:ownKnob C.prog.godebug=none) (started:os.Started) (noInit:C.prog.inits.idxOf? f=none) (hfn:C.prog.funcs[f]? = some fn)
 (witness:∃ (w:World) (tape:Tape) (i:Input),w.os=os/\(w.forCall tape i).Shaped C.prog/\i.vars=[]/\Input.okWide C.prog (w.forCall tape i) .any w.heap.size f i /\
  ((s.pre enc C.prog fn [] apart (w.forCall tape i).memory i.args/\laidMetH C.prog laid (w.forCall tape i).memory)/\sizedMet enc C.prog fn (OpenSpec.ofChange s) apart (w.forCall tape i).memory i.args)/\({}:Assume).holds C.prog (lone (Frame.enter C.prog f i.args .normal) [] (w.forCall tape i)))
 (contract:∀ (W:World) (base:Nat) (args:Array Value) (ds gs:List (DataW H)) (before:List MemPlace),
  (∀ (j:Nat) t v,fn.params[j]? = some t->args[j]? = some v->Value.okWide C.prog W .any base t v) ->
  DataW.Whole enc C.prog fn.params.toList s.vars apart W args.toList ds gs before ->
  (DataW.weightsEach C.prog (fn.params.toList ++ s.plain.varTypes C.prog) (ds ++ gs)).all (·<=reachBytes)=true->laidMetH C.prog laid W->W.ShapedOpen C.prog ->
  Calls C.prog f args W fun e W'=>∃ v,e=.returned v/\s.post enc C.prog fn apart fresh handsOn again W args v W') :
 ReturnsInHanded {} C os f .any (fun w args=>(s.pre enc C.prog fn [] apart w args/\laidMetH C.prog laid w)/\sizedMet enc C.prog fn (OpenSpec.ofChange s) apart w args) (s.post enc C.prog fn apart fresh handsOn again) :=
 returnsInHanded_of_calls own started noInit witness fun w tape i _ shaped _ fits pre _=>by
  obtain ⟨_,_,_,fn2,hfn2,_,_,_,_,hval⟩:=fits
  obtain rfl:fn2=fn:=jI (hfn2.symm.trans hfn)
  obtain ⟨⟨⟨ds,gs,before,hw,_⟩,hl⟩,hz⟩:=pre
  refine Calls.mono (contract (w.forCall tape i) w.heap.size i.args ds gs before hval (DataW.Whole.of_heap (w':=w.forCall tape i) (by rfl) hw) (hz.weights hw) (laidMetH.of_heap (by rfl) hl) shaped) fun e W' h=>?_
  obtain ⟨v,rfl,hp⟩:=h
  exact ChangeSpec.post_blind hp
noncomputable def metRun (P:Program) (w:World) (fuel M:Nat) (l:List (String × DataW Unit)):Option (List (String × DataW Unit)) :=
 (DataW.laidRun P w fuel (l.map (·.1))).bind fun x=>if nodupBits M x.2 0 && laidRowsB P w x.2 then some x.1 else none
theorem met_of_run {P:Program} {w:World} {l:List (String × DataW Unit)} (fuel M:Nat) (h:metRun P w fuel M l=some l):laidMet P l w:=by
 unfold metRun at h
 rw [Option.bind_eq_some_iff] at h
 obtain ⟨x,hx,h⟩:=h
 split at h
 · rename_i hb
   simp only [Bool.and_eq_true] at hb
   simp only [Option.some.injEq] at h
   exact laidMet_of_run (ps:=x.2) fuel (by rw [hx,<- h]) (decide_eq_true (nodupBits_sound hb.1).1) hb.2
 · cases h
def litCells:DataW Unit->List Value
 | .agg l=>l.map fun | .lit (.int k n)=>Value.int k n|_=>undef
 | _=>[]
noncomputable def laidWorld (os:Os):World :=
 let w0:=World.doorLaid Tryz.prog 400 os
 { w0 with heap:=w0.heap.modify 6 fun
  | .cells _ t frozen=>.cells (litCells Rows.laid_unicode_utf8_first).toArray t frozen
  | o=>o }
theorem iface_laid {W:World} {nm:String} {d:DataW Unit} {rest:List (String × DataW Unit)} (h:laidMet Tryz.prog (("strconv.ErrRange",.iface nm d) :: rest) W):∃ ev,W.cell? ⟨4,0,none⟩=some ev/\(ev=.nilIface \/ ∃ te pe,ev=.iface te pe):=by
 obtain ⟨ps,⟨g',t',cs,fuel,p,q,hg',ht',hvar,hd,_,_⟩,_⟩:=h
 obtain rfl:=jI ((show Tryz.prog.globalNamed "strconv.ErrRange"=some 4 by kernel_rfl).symm.trans hg')
 obtain rfl:=jI ((show (Tryz.prog.globals[4]?).map (·.type)=some 82 by kernel_rfl).symm.trans ht')
 have hc:=World.var?_cell hg' hvar 0
 cases fuel with
 | zero=>simp [DataW.trod] at hd
 | succ fuel =>
  have hu:=Tryz.underlying82
  obtain ⟨l⟩:=cs
  rcases l with _|⟨x,_|⟨y,r⟩⟩
  · simp [DataW.trod,hu] at hd
  · refine ⟨x,hc,?_⟩
    cases x <;> simp [DataW.trod,hu] at hd ⊢
  · simp [DataW.trod,hu] at hd
theorem envl_laid {W:World} {l:List (String × DataW Unit)} (hL:laidMetH Tryz.prog l W) (hSh:W.ShapedOpen Tryz.prog)
 (h1:l.filter (fun x=>x.1 == "strings.asciiSpace")=[("strings.asciiSpace",Lib.tabData .u8 Lib.asciiSpaceTab)]) (h2:l.filter (fun x=>x.1 == "internal/strconv.uint64pow10")=[("internal/strconv.uint64pow10",Lib.tabData .u64 Lib.pow10Tab)])
 (h3:l.filter (fun x=>x.1 == "strconv.ErrRange")=[("strconv.ErrRange",Rows.laid_strconv_ErrRange)]):EnvL W:=by
 have k1:=hL.filter (fun x=>x.1 == "strings.asciiSpace")
 have k2:=hL.filter (fun x=>x.1 == "internal/strconv.uint64pow10")
 have k3:=hL.filter (fun x=>x.1 == "strconv.ErrRange")
 rw [h1,Go.MakeChecks.laidMetH_plain _ _ _ (by kernel_rfl)] at k1
 rw [h2,Go.MakeChecks.laidMetH_plain _ _ _ (by kernel_rfl)] at k2
 rw [h3,Go.MakeChecks.laidMetH_plain _ _ _ (by kernel_rfl)] at k3
 refine ⟨Go.Proofs.cell_of_shapedOpen_int (g:=1) (zero:=#[.int .i64 0]) (t:=3) hSh (of_decide_eq_true (by kernel_rfl)) (by kernel_rfl) rfl (by kernel_rfl) (by kernel_rfl) Tryz.underlying3,?_,?_,iface_laid k3⟩
 · exact Lib.tabIs_of_head (g:=0) (t:=157) (e:=5) (n:=256) (by kernel_rfl) (by kernel_rfl) Tryz.underlying157 Tryz.underlying5 (by kernel_rfl) (by kernel_rfl) k1
 · exact Lib.tabIs_of_head (g:=5) (t:=212) (e:=110) (n:=20) (by kernel_rfl) (by kernel_rfl) Tryz.underlying212 Tryz.underlying110 (by kernel_rfl) (by kernel_rfl) k2
end
end Go.Proofs.YtjcpccadmcglgaaGreatDoor
