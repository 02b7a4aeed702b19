/- LangBack (where what it reads is of bulk at most 1048576): parsing the printed form of a v. -/
import Derived.Test.YtieojjngeibnmaaGreatDoorZB47
import Derived.Test.YtieojjngeibnmaaGreatDoorZB20
import Derived.Test.YtieojjngeibnmaaGreatDoorTie
import Derived.Test.YtieojjngeibnmaaGreatDoorCards
import Derived.Deep.DeepHandedRow
import Derived.Deep.DeepWitnessRowRef
set_option linter.unusedVariables false
set_option linter.unusedSimpArgs false
set_option maxRecDepth 100000
set_option maxHeartbeats 64000000
namespace Go.Proofs.YtieojjngeibnmaaGreatDoor
section
open Go.ChangeShapes Go.WideShapes Go.ChangeAt Go.RowKit
theorem door_met (os:Os) (args:Array Value):laidMetH Tryz.prog Rows.langBackUptoRow.laid ((laidWorld os).forCall (fun _ _=>0) ⟨#[],args,[]⟩).memory :=
 laidMetH_of_parts3 (fuel:=8) (met_of_run 8 1000 (by kernel_rfl)) (by kernel_rfl) (by kernel_rfl)
noncomputable def witArgs:Array Value:=#[.agg #[.int .i64 0,.string ⟨#[]⟩,.string ⟨#[]⟩,.slice none 0 0,.slice none 0 0,.slice none 0 0,.slice none 0 0,.slice none 0 0,.string ⟨#[]⟩,.string ⟨#[]⟩,.string ⟨#[]⟩,.int .i64 0,.slice none 0 0,.int .i64 0,.int .i64 0],.slice none 0 0]
def witData (H:Type):List (DataW H):=[.agg [.lit (.int .i64 0),.lit (.string []),.lit (.string []),.nil,.nil,.nil,.nil,.nil,.lit (.string []),.lit (.string []),.lit (.string []),.lit (.int .i64 0),.nil,.lit (.int .i64 0),.lit (.int .i64 0)],.nil]
theorem wit_reads (os:Os) {H:Type} (enc:TypeId × Value->H):DataW.whole enc Tryz.prog ((laidWorld os).forCall (fun _ _=>0) ⟨#[],witArgs,[]⟩).memory Tryz.f4.params.toList Rows.langBackSpec.vars false witArgs.toList 8=some (witData H,[],[]):=by kernel_rfl
theorem langBack_lifted (os:Os) (started:os.Started) (H:Type) (enc:TypeId × Value->H) (F:Stop.Interp) :
 ReturnsInHanded {} Tryz.checked os 4 .any ((Rows.OpenSpec.upto Rows.langBackSpec).preRow enc Tryz.prog Tryz.f4 Rows.langBackUptoRow.domain false Rows.langBackUptoRow.laid) (((Rows.OpenSpec.upto Rows.langBackSpec).at F).post enc Tryz.prog Tryz.f4 false true false false):=by
 refine returnsInHanded_of_row (C:=Tryz.checked) (s:=Rows.OpenSpec.upto Rows.langBackSpec) Tryz.own started (by kernel_rfl) Tryz.func4
  (witness_row_atRef (enc:=enc) (C:=Tryz.checked) false (laidWorld os) witArgs rfl (by kernel_rfl) (by kernel_rfl) (by kernel_rfl)
   (OpenSpec.preRow_of_cond 8 (wit_reads os enc) (by kernel_rfl) (fun k hk=>by cases hk;kernel_rfl) (by kernel_rfl) (door_met os witArgs))) ?_
 intro W base args ds gs before hval0 hW _ hcond hsz0 hL hSh _
 have hval:∀ (j:Nat) t v,Tryz.f4.params[j]? = some t->args[j]? = some v->Value.okWide Tryz.prog W .any base t v:=hval0
 have hsz:(DataW.weightsEach Tryz.prog (Tryz.f4.params.toList ++ Rows.langBackSpec.plain.varTypes Tryz.prog) (ds ++ gs)).all (·<=reachBytes)=true:=hsz0
 have hk:Rows.uptoSmall H (ds ++ gs)=true:=hcond _ rfl
 clear hsz0 hval0 hcond
 have hW':=hW
 obtain ⟨p,q,hA0,hV,rfl,hfz,hnd⟩:=hW
 have hA:DataW.TrodAll enc Tryz.prog W 0 (fun _=>true) true Tryz.f4.params.toList args.toList ds p:=hA0
 rw [Tryz.params4] at hA hval hsz
 obtain ⟨v0,vs0,d0,ds0,p0,q0,hargs,rfl,rfl,h0,r0⟩:=trodAll_cons hA
 obtain ⟨v1,vs1,d1,ds1,p1,q1,rfl,rfl,rfl,h1,r1⟩:=trodAll_cons r0
 obtain ⟨rfl,rfl,rfl⟩:=trodAll_nil r1
 obtain rfl:args=#[v0,v1]:=by cases args;simp_all
 obtain ⟨rfl,rfl⟩:=trodVars_none hV
 have hbulk:Rows.uptoBulk d0<=1048576:=by
  have h:=of_decide_eq_true hk
  simp only [List.append_nil,Rows.uptoBulkAll] at h
  omega
 have hfz0:W.noneFrozen p0:=fun b o hm=>hfz b o (by simp [hm])
 have hfz1:W.noneFrozen p1:=fun b o hm=>hfz b o (by simp [hm])
 obtain ⟨L,s,rfl,sls,parts⟩:=open_stmt (hval 0 29 v0 rfl rfl) h0 hfz0 hbulk
 obtain ⟨al,cl,l,rfl,sl,_⟩:=open_ints (hval 1 30 v1 rfl rfl) h1 hfz1 hsz (j:=1) rfl rfl
 clear hA0
 refine (back_walk sls sl parts.few_ok.1 parts.few_ok.2 (envl_laid hL hSh rfl rfl rfl)).mono fun e W' ⟨he,hb⟩=>?_
 subst he
 exact ⟨_,rfl,law_post Tryz.laidOut (by kernel_rfl) rfl Tryz.underlying4 rfl rfl hW' hb⟩
end
end Go.Proofs.YtieojjngeibnmaaGreatDoor
