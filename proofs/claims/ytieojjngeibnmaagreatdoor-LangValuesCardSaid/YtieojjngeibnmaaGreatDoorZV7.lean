/- LangValues: the literal of a valid value is a single token with that value, and an insert . -/
import Derived.Test.YtieojjngeibnmaaGreatDoorZV6
import Derived.Test.YtieojjngeibnmaaGreatDoorZD16
import Derived.Test.YtieojjngeibnmaaGreatDoorZD15
import Derived.Test.YtieojjngeibnmaaGreatDoorTie
import Derived.Test.YtieojjngeibnmaaGreatDoorCards
set_option linter.unusedVariables false
set_option linter.unusedSimpArgs false
set_option maxRecDepth 100000
set_option maxHeartbeats 64000000
namespace Go.Proofs.YtieojjngeibnmaaGreatDoor
section
open Go.ChangeShapes Go.WideShapes Go.ChangeAt Go.RowKit
theorem three_of {α:Type} {l:List α} (h:l.length=3):∃ x y z,l=[x,y,z]:=by
 match l,h with
 | [x,y,z],_=>exact ⟨x,y,z,rfl⟩
theorem kinds_of_laid {W:World} {l:List (String × DataW Unit)} (hx:("vintner/value.kinds",Rows.laid_vintner_value_kinds (H:=Unit)) ∈ l) (h:laidMetH Tryz.prog l W):KindsAt W:=by
 obtain ⟨g,t,cs,fuel,p,hg,ht,hv,hd⟩:=h.funcs (n:="vintner/value.kinds") hx
 obtain rfl:=jI ((show Tryz.prog.globalNamed "vintner/value.kinds"=some 0 by kernel_rfl).symm.trans hg)
 obtain rfl:=jI ((show (Tryz.prog.globals[0]?).map (·.type)=some 192 by kernel_rfl).symm.trans ht)
 have hd':DataW.trod (funcToken Tryz.prog) Tryz.prog W 0 (fun _=>true) true fuel 192 cs.toList=some (.agg [.held [118,105,110,116,110,101,114,47,118,97,108,117,101,46,107,105,110,100,115,36,49],.held [118,105,110,116,110,101,114,47,118,97,108,117,101,46,107,105,110,100,115,36,50],.held [118,105,110,116,110,101,114,47,118,97,108,117,101,46,107,105,110,100,115,36,51]],p):=hd
 obtain ⟨xs,m,rfl,hxs,hlen,hn,hel⟩:=DataW.trod_array Tryz.underlying192 hd'
 simp only [Prod.mk.injEq,DataW.agg.injEq] at hxs
 obtain ⟨hx1,-⟩:=hxs
 have hc1:Tryz.prog.cellsOf 128=1:=by kernel_rfl
 have hc3:Tryz.prog.cellsOf 192=3:=by kernel_rfl
 rw [hc3] at hlen
 rw [hc1] at hel
 obtain ⟨x0,x1,x2,rfl⟩:=three_of hn
 obtain ⟨l⟩:=cs
 obtain ⟨v0,v1,v2,rfl⟩:=three_of (l:=l) (by simpa using hlen)
 simp only [List.map_cons,List.map_nil,List.cons.injEq,and_true] at hx1
 obtain ⟨h0,h1,h2⟩:=hx1
 have e0:=hel 0 (by decide)
 have e1:=hel 1 (by decide)
 have e2:=hel 2 (by decide)
 simp at e0 e1 e2
 obtain ⟨d0,q0⟩:=x0
 obtain ⟨d1,q1⟩:=x1
 obtain ⟨d2,q2⟩:=x2
 simp only at h0 h1 h2
 subst h0 h1 h2
 have f0:=func_of_trod (f0:=287) Tryz.underlying128 (by kernel_rfl) e0
 have f1:=func_of_trod (f0:=288) Tryz.underlying128 (by kernel_rfl) e1
 have f2:=func_of_trod (f0:=290) Tryz.underlying128 (by kernel_rfl) e2
 subst f0 f1 f2
 exact ⟨World.var?_cell hg hv 0,World.var?_cell hg hv 1,World.var?_cell hg hv 2⟩
theorem door_met (os:Os) (args:Array Value):laidMetH Tryz.prog Rows.langValuesRow.laid ((laidWorld os).forCall (fun _ _=>0) ⟨#[],args,[]⟩).memory :=
 laidMetH_of_parts3 (fuel:=8) (met_of_run 8 1000 (by kernel_rfl)) (by kernel_rfl) (by kernel_rfl)
theorem val_of_trod {H:Type} {enc:TypeId × Value->H} {w:World} {fuel:Nat} {cs:List Value} {y:DataW H × List MemPlace} (hf:DataW.trod enc Tryz.prog w 0 (fun _=>true) true fuel 60 cs=some y) (hl:cs.length=3) :
 ∃ v:Val,cs=valEnc v/\Rng v.n:=by
 have c1:Tryz.prog.cellsOf 3=1:=by kernel_rfl
 have c2:Tryz.prog.cellsOf 2=1:=by kernel_rfl
 have c3:Tryz.prog.cellsOf 9=1:=by kernel_rfl
 match cs,hl with
 | [e0,e1,e2],_ =>
  obtain ⟨xs,n,_,hx,_,hxl,hfs⟩:=DataW.trod_struct Tryz.underlying60 hf
  match xs,hxl with
  | [x0,x1,x2],_ =>
   have h0:=hfs 0 _ rfl
   have h1:=hfs 1 _ rfl
   have h2:=hfs 2 _ rfl
   simp [c1,c2,c3] at h0 h1 h2
   obtain ⟨y0,q0,_,_⟩:=DataW.trod_int Tryz.underlying3 h0
   obtain ⟨y1,q1,_,w1⟩:=DataW.trod_int Tryz.underlying2 h1
   obtain ⟨y2,q2,hy2,_⟩:=DataW.trod_string Tryz.underlying9 h2
   simp at q0 q1 q2
   subst q0 q1 q2
   exact ⟨⟨y0,y1,y2⟩,rfl,by simpa [Rng,Lit.wf,IntKind.min,IntKind.max,IntKind.signed,IntKind.bits] using w1⟩
theorem open_vrow {H:Type} {enc:TypeId × Value->H} {w:World} {b0:Nat} {v:Value} {d:DataW H} {p:List MemPlace} {ts:List TypeId} {ds:List (DataW H)} {j:Nat} (hv:Value.okWide Tryz.prog w .any b0 25 v) (h:DataW.Trod enc Tryz.prog w 0 (fun _=>true) true 25 v d p) (hfz:w.noneFrozen p)
 (hw:(DataW.weightsEach Tryz.prog ts ds).all (·<=reachBytes)=true) (ht:ts[j]? = some 25) (hd:ds[j]? = some d) :
 ∃ a cap Z,v=.slice a (List.length Z) cap/\SlV valR (fun _=>True) w (.slice a Z.length cap) Z/\∀ x ∈ Z,Rng x.n:=by
 obtain ⟨a0,len,cap0,rfl⟩:=okWide_slice Tryz.underlying25 hv
 obtain ⟨fuel,hf0⟩:=id h
 have hf:DataW.trod enc Tryz.prog w 0 (fun _=>true) true fuel 25 [.slice a0 len cap0]=some (d,p):=by simpa [Value.cells] using hf0
 obtain ⟨a,n,cap,hs,hn,hb,hel⟩:=view_at (P:=Tryz.prog) (sz:=3) (bytes:=32) Tryz.underlying25 (by kernel_rfl) (by decide) (by kernel_rfl) ⟨a0,len,cap0,rfl⟩ h (fun elems sp he=>sized_slice hw ht (by rw [<- show d=_ from he];exact hd) Tryz.underlying25)
 rw [hs] at hf ⊢
 rcases hel with h0|⟨b,off,rfl,hel⟩
 · subst h0
   exact ⟨a,cap,[],rfl,⟨a,cap,rfl,Nat.zero_le _,Nat.zero_le _,Or.inl rfl⟩,fun x hx=>by cases hx⟩
 have each:∀ i,i<n->∃ x:Val,(∀ j,j<3->w.cell? ⟨b,off+i * 3+j,none⟩=(valEnc x)[j]?)/\Rng x.n:=by
  intro i hi
  obtain ⟨cs,m,y,h1,h2,h3⟩:=hel i hi
  obtain ⟨x,rfl,hx⟩:=val_of_trod h3 h1
  exact ⟨x,h2,hx⟩
 have:Inhabited Val:=⟨⟨0,0,.empty⟩⟩
 obtain ⟨L,hL,hL2⟩:=list_of each
 subst hL
 have gd:∀ t (ht:t<L.length),L.getD t default=L[t]:=fun t ht=>by rw [List.getD_eq_getElem?_getD,List.getElem?_eq_getElem ht];rfl
 refine ⟨_,cap,L,rfl,⟨_,cap,rfl,hn,by omega,?_⟩,fun x hx=>?_⟩
 · rcases Nat.eq_zero_or_pos L.length with h0|h0
   · exact Or.inl (List.eq_nil_of_length_eq_zero h0)
   · have hc:=(hL2 0 h0).1 0 (by omega)
     refine Or.inr ⟨b,off,rfl,trivial,⟨World.block_lt_of_cell? w _ (hc.trans rfl),free_of_trod (sz:=3) Tryz.underlying25 (by kernel_rfl) hf hfz⟩,fun t ht=>⟨_,fun j hj=>?_,rfl⟩⟩
     rw [<- gd t ht]
     exact (hL2 t ht).1 j hj
 · obtain ⟨t,ht,rfl⟩:=List.getElem_of_mem hx
   have:=(hL2 t ht).2
   rwa [gd t ht] at this
theorem values_law {a:Option Addr} {c:Nat} {r:List Val} {w:World} (h:SlV valR (fun _=>True) w (.slice a r.length c) r) (g:∀ x ∈ r,Rng x.n) (he:EnvL w) (hk:KindsAt w) :
 Calls Tryz.prog 9 #[.slice a r.length c] w fun e w'=>e=.returned (.bool true)/\Below w.heap.size w w':=values_walk h g he hk
theorem langValues_lifted (os:Os) (started:os.Started) (H:Type) (enc:TypeId × Value->H) :
 ReturnsInHanded {} Tryz.checked os 9 .any (fun w args=>(Rows.langValuesSpec.pre enc Tryz.prog Tryz.f9 [] false w args/\laidMetH Tryz.prog Rows.langValuesRow.laid w)/\sizedMet enc Tryz.prog Tryz.f9 (OpenSpec.ofChange Rows.langValuesSpec) false w args) (Rows.langValuesSpec.post enc Tryz.prog Tryz.f9 false true false false):=by
 refine returns_laid (C:=Tryz.checked) Tryz.own started (by kernel_rfl) Tryz.func9
  (ChangeSpec.witness_shaped (enc:=enc) (C:=Tryz.checked) (os:=os) (X:=fun w _=>laidMetH Tryz.prog Rows.langValuesRow.laid w) false (laidWorld os) #[.slice none 0 0] 8 rfl (World.shaped_of_RefB (by kernel_rfl) (by kernel_rfl)) (by kernel_rfl) (by kernel_rfl) (by kernel_rfl) (door_met os _)) ?_
 intro W base args ds gs before hval0 hW hsz0 hL hSh
 have hval:∀ (j:Nat) t v,Tryz.f9.params[j]? = some t->args[j]? = some v->Value.okWide Tryz.prog W .any base t v:=hval0
 have hsz:(DataW.weightsEach Tryz.prog (Tryz.f9.params.toList ++ Rows.langValuesSpec.plain.varTypes Tryz.prog) (ds ++ gs)).all (·<=reachBytes)=true:=hsz0
 clear hsz0 hval0
 have hW':=hW
 obtain ⟨p,q,hA0,hV,rfl,hfz,hnd⟩:=hW
 have hA:DataW.TrodAll enc Tryz.prog W 0 (fun _=>true) true Tryz.f9.params.toList args.toList ds p:=hA0
 rw [Tryz.params9] at hA hval hsz
 obtain ⟨v0,vs0,d0,ds0,p0,q0,hargs,rfl,rfl,h0,r0⟩:=trodAll_cons hA
 obtain ⟨rfl,rfl,rfl⟩:=trodAll_nil r0
 obtain rfl:args=#[v0]:=by cases args;simp_all
 obtain ⟨rfl,rfl⟩:=trodVars_none hV
 obtain ⟨_,_,_,rfl,s0,g0⟩:=open_vrow (hval 0 25 v0 rfl rfl) h0 (show W.noneFrozen p0 from fun b off hm=>hfz b off (by simp [hm])) hsz (j:=0) rfl rfl
 clear hA0
 refine (values_law s0 g0 (envl_laid hL hSh rfl rfl rfl) (kinds_of_laid (List.mem_of_getElem? (i:=8) rfl) hL)).mono fun e W' ⟨he,hb⟩=>?_
 subst he
 exact ⟨_,rfl,law_post Tryz.laidOut (by kernel_rfl) rfl Tryz.underlying4 rfl rfl hW' hb⟩
end
end Go.Proofs.YtieojjngeibnmaaGreatDoor
