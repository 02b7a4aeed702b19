/- PlainOwn, the tied card: Do does not modify its arguments and shares no memory with its results, and statements of other kinds have no effect. Conditions: none beyond the row's own. -/
import Derived.Test.YtgemihkcihigpaaGreatDoorTie
import Derived.Test.YtgemihkcihigpaaGreatDoorCards
import Derived.Test.YtgemihkcihigpaaGreatDoorZD38
import Derived.Test.YtgemihkcihigpaaGreatDoorZD40
import Derived.Test.YtgemihkcihigpaaGreatDoorZH1
set_option linter.unusedVariables false
set_option linter.unusedSimpArgs false
set_option maxRecDepth 100000
set_option maxHeartbeats 64000000
namespace Go.Proofs.YtgemihkcihigpaaGreatDoor
section
open Go.ChangeShapes Go.WideShapes Go.ChangeAt Go.RowKit
theorem owns_law {al aq:Option Addr} {cl cq:Nat} {l q:List Int} {w:World} (sl:SlV intR (fun _=>True) w (.slice al l.length cl) l) (_:∀ x ∈ l,Rng x) (sq:SlV intR (fun _=>True) w (.slice aq q.length cq) q) (_:∀ x ∈ q,Rng x) (kind:Int) (hk:-9223372036854775808<=kind/\kind<=9223372036854775807) (hK:KindsAt w) :
 Calls Tryz.prog 12 #[.slice al l.length cl,.slice aq q.length cq,.int .i64 kind] w fun e w'=>e=.returned (.bool true)/\Below w.heap.size w w':=own_walk sl sq hk hK
theorem plainOwn_lifted (os:Os) (started:os.Started) (H:Type) (enc:TypeId × Value->H) :
 ReturnsInHanded {} Tryz.checked os 12 .any (fun w args=>(Rows.plainOwnSpec.pre enc Tryz.prog Tryz.f12 [] false w args/\laidMetH Tryz.prog Rows.plainOwnRow.laid w)/\sizedMet enc Tryz.prog Tryz.f12 (OpenSpec.ofChange Rows.plainOwnSpec) false w args) (Rows.plainOwnSpec.post enc Tryz.prog Tryz.f12 false true false false):=by
 refine returns_laid (C:=Tryz.checked) Tryz.own started (by kernel_rfl) Tryz.func12
  (ChangeSpec.witness_shaped (enc:=enc) (C:=Tryz.checked) (os:=os) (X:=fun w _=>laidMetH Tryz.prog Rows.plainOwnRow.laid w) false (laidWorld os) #[.slice none 0 0,.slice none 0 0,.int .i64 0] 8 rfl (World.shaped_of_RefB (by kernel_rfl) (by kernel_rfl)) (by kernel_rfl) (by kernel_rfl) (by kernel_rfl) (door_met os _)) ?_
 intro W base args ds gs before hval0 hW hsz0 hL hSh
 have hval:∀ (j:Nat) t v,Tryz.f12.params[j]? = some t->args[j]? = some v->Value.okWide Tryz.prog W .any base t v:=hval0
 have hsz:(DataW.weightsEach Tryz.prog (Tryz.f12.params.toList ++ Rows.plainOwnSpec.plain.varTypes Tryz.prog) (ds ++ gs)).all (·<=reachBytes)=true:=hsz0
 clear hsz0 hval0
 have hW':=hW
 obtain ⟨p,q,hA0,hV,rfl,hfz,hnd⟩:=hW
 have hA:DataW.TrodAll enc Tryz.prog W 0 (fun _=>true) true Tryz.f12.params.toList args.toList ds p:=hA0
 rw [Tryz.params12] at hA hval hsz
 obtain ⟨v0,vs0,d0,ds0,p0,q0,hargs,rfl,rfl,h0,r0⟩:=trodAll_cons hA
 obtain ⟨v1,vs1,d1,ds1,p1,q1,rfl,rfl,rfl,h1,r1⟩:=trodAll_cons r0
 obtain ⟨v2,vs2,d2,ds2,p2,q2,rfl,rfl,rfl,h2,r2⟩:=trodAll_cons r1
 obtain ⟨rfl,rfl,rfl⟩:=trodAll_nil r2
 obtain rfl:args=#[v0,v1,v2]:=by cases args;simp_all
 obtain ⟨rfl,rfl⟩:=trodVars_none hV
 obtain ⟨_,_,_,rfl,s0,g0⟩:=open_ints (hval 0 22 v0 rfl rfl) h0 (show W.noneFrozen p0 from fun b off hm=>hfz b off (by simp [hm])) hsz (j:=0) rfl rfl
 obtain ⟨_,_,_,rfl,s1,g1⟩:=open_ints (hval 1 22 v1 rfl rfl) h1 (show W.noneFrozen p1 from fun b off hm=>hfz b off (by simp [hm])) hsz (j:=1) rfl rfl
 obtain ⟨kind,rfl,rfl,rfl,wkind⟩:=open_int Tryz.underlying3 (hval 2 3 v2 rfl rfl) h2
 have bdkind:-9223372036854775808<=kind/\kind<=9223372036854775807:=by simpa [Lit.wf,IntKind.min,IntKind.max,IntKind.signed,IntKind.bits] using wkind
 clear hA0
 refine (owns_law s0 g0 s1 g1 kind bdkind (kinds_of_laid (List.mem_cons_self ..) hL)).mono fun e W' ⟨he,hb⟩=>?_
 subst he
 exact ⟨_,rfl,law_post Tryz.laidOut (by kernel_rfl) rfl Tryz.underlying4 rfl rfl hW' hb⟩
theorem plainOwn_holds:Rows.PlainOwnSaid :=
 OpenClaim.holds_of_wide 12 Tryz.f12 rfl rfl rfl rfl rfl rfl rfl ⟨rfl,rfl,rfl,rfl,rfl⟩ rfl rfl rfl rfl rfl (by kernel_rfl) Tryz.func12 (by kernel_rfl)
  (of_decide_eq_true (by kernel_rfl)) (by unfold Func.isWrapper;first|(rw [if_pos (by decide +kernel)];kernel_rfl)|(rw [if_neg (by decide +kernel)];exact ⟨rfl,rfl⟩))
  (fun os started H enc _=>plainOwn_lifted os started H enc)
end
section
open Go
theorem plainOwn_card:Rows.PlainOwnCardSaid :=
 Claim7.holds_tied_plain_at .later [] _ _ _ _ plainOwn_holds (fun _ h=>by cases h) (by kernel_rfl) (fun _ h=>by cases h) plainOwn_row_tie rfl ⟨rfl,rfl⟩ (by kernel_rfl) rfl
  (fun f fn hf hfn=>by
   obtain rfl:f=12:=(jI ((show Tryz.prog.funcNamed Tryz.f12.name=some 12 by kernel_rfl).symm.trans hf)).symm
   obtain rfl:fn=Tryz.f12:=(jI (Tryz.func12.symm.trans hfn)).symm
   refine ⟨by kernel_rfl,fun j t ht=>?_⟩
   have h:=List.all_eq_true.1 (show Tryz.f12.params.toList.all (fun t=>!Tryz.prog.wantsStandIn t)=true by kernel_rfl) t (List.mem_of_getElem? (by simpa using ht))
   exact (by simpa using h:Tryz.prog.wantsStandIn t=false))
  (by kernel_rfl)
end
end Go.Proofs.YtgemihkcihigpaaGreatDoor
