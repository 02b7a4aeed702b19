/- LangCatalog: executing a printed and parsed schema statement has the same effect as executing the original. Conditions: none beyond the row's own. -/
import Derived.Test.YtjcpccadmcglgaaGreatDoorZK50
import Derived.Test.YtjcpccadmcglgaaGreatDoorZK18
import Derived.Test.YtjcpccadmcglgaaGreatDoorTie
import Derived.Test.YtjcpccadmcglgaaGreatDoorCards
set_option linter.unusedVariables false
set_option linter.unusedSimpArgs false
set_option maxRecDepth 100000
set_option maxHeartbeats 64000000
namespace Go.Proofs.YtjcpccadmcglgaaGreatDoor
section
open Go.ChangeShapes Go.WideShapes Go.ChangeAt Go.RowKit
theorem door_met (os:Os) (args:Array Value):laidMetH Tryz.prog Rows.langCatalogRow.laid ((laidWorld os).forCall (fun _ _=>0) ⟨#[],args,[]⟩).memory :=
 laidMetH_of_parts3 (fuel:=8) (met_of_run 8 1000 (by kernel_rfl)) (by kernel_rfl) (by kernel_rfl)
theorem cat_law {al:Option Addr} {n cl:Nat} {w:World} (hR:RowsC w al n) (hn:n<=140737488355328) (he:EnvL w) :
 Calls Tryz.prog 3 #[.slice al n cl] w fun e w'=>e=.returned (.bool true)/\Below w.heap.size w w':=cat_walk hR hn he
theorem langCatalog_lifted (os:Os) (started:os.Started) (H:Type) (enc:TypeId × Value->H) :
 ReturnsInHanded {} Tryz.checked os 3 .any (fun w args=>(Rows.langCatalogSpec.pre enc Tryz.prog Tryz.f3 [] false w args/\laidMetH Tryz.prog Rows.langCatalogRow.laid w)/\sizedMet enc Tryz.prog Tryz.f3 (OpenSpec.ofChange Rows.langCatalogSpec) false w args) (Rows.langCatalogSpec.post enc Tryz.prog Tryz.f3 false true false false):=by
 refine returns_laid (C:=Tryz.checked) Tryz.own started (by kernel_rfl) Tryz.func3
  (ChangeSpec.witness_shaped (enc:=enc) (C:=Tryz.checked) (os:=os) (X:=fun w _=>laidMetH Tryz.prog Rows.langCatalogRow.laid w) false (laidWorld os) #[.slice none 0 0] 8 rfl (World.shaped_of_RefB (by kernel_rfl) (by kernel_rfl)) (by kernel_rfl) (by kernel_rfl) (by kernel_rfl) (door_met os _)) ?_
 intro W base args ds gs before hval0 hW hsz0 hL hSh
 have hval:∀ (j:Nat) t v,Tryz.f3.params[j]? = some t->args[j]? = some v->Value.okWide Tryz.prog W .any base t v:=hval0
 have hsz:(DataW.weightsEach Tryz.prog (Tryz.f3.params.toList ++ Rows.langCatalogSpec.plain.varTypes Tryz.prog) (ds ++ gs)).all (·<=reachBytes)=true:=hsz0
 clear hsz0 hval0
 have hW':=hW
 obtain ⟨p,q,hA0,hV,rfl,hfz,hnd⟩:=hW
 have hA:DataW.TrodAll enc Tryz.prog W 0 (fun _=>true) true Tryz.f3.params.toList args.toList ds p:=hA0
 rw [Tryz.params3] at hA hval hsz
 obtain ⟨v0,vs0,d0,ds0,p0,q0,hargs,rfl,rfl,h0,r0⟩:=trodAll_cons hA
 obtain ⟨rfl,rfl,rfl⟩:=trodAll_nil r0
 obtain rfl:args=#[v0]:=by cases args;simp_all
 obtain ⟨rfl,rfl⟩:=trodVars_none hV
 obtain ⟨_,_,_,rfl,s0,g0⟩:=open_rowsc (hval 0 22 v0 rfl rfl) h0 (show W.noneFrozen p0 from fun b off hm=>hfz b off (by simp [hm])) hsz (j:=0) rfl rfl
 clear hA0
 refine (cat_law s0 g0 (envl_laid hL hSh rfl rfl rfl)).mono fun e W' ⟨he,hb⟩=>?_
 subst he
 exact ⟨_,rfl,law_post Tryz.laidOut (by kernel_rfl) rfl Tryz.underlying4 rfl rfl hW' hb⟩
theorem langCatalog_holds:Rows.LangCatalogSaid :=
 OpenClaim.holds_of_wide 3 Tryz.f3 rfl rfl rfl rfl rfl rfl rfl ⟨rfl,rfl,rfl,rfl,rfl⟩ rfl rfl rfl rfl rfl (by kernel_rfl) Tryz.func3 (by kernel_rfl)
  (of_decide_eq_true (by kernel_rfl)) (by unfold Func.isWrapper;first|(rw [if_pos (by decide +kernel)];kernel_rfl)|(rw [if_neg (by decide +kernel)];exact ⟨rfl,rfl⟩))
  (fun os started H enc _=>langCatalog_lifted os started H enc)
theorem langCatalog_card:Rows.LangCatalogCardSaid :=
 Claim7.holds_tied_plain_at .later [] _ _ _ _ langCatalog_holds (fun _ h=>by cases h) (by kernel_rfl) (fun _ h=>by cases h) langCatalog_row_tie rfl ⟨rfl,rfl⟩ (by kernel_rfl) rfl
  (fun f fn hf hfn=>by
   obtain rfl:f=3:=(jI ((show Tryz.prog.funcNamed Tryz.f3.name=some 3 by kernel_rfl).symm.trans hf)).symm
   obtain rfl:fn=Tryz.f3:=(jI (Tryz.func3.symm.trans hfn)).symm
   refine ⟨by kernel_rfl,fun j t ht=>?_⟩
   have h:=List.all_eq_true.1 (show Tryz.f3.params.toList.all (fun t=>!Tryz.prog.wantsStandIn t)=true by kernel_rfl) t (List.mem_of_getElem? (by simpa using ht))
   exact (by simpa using h:Tryz.prog.wantsStandIn t=false))
  (by kernel_rfl)
end
end Go.Proofs.YtjcpccadmcglgaaGreatDoor
