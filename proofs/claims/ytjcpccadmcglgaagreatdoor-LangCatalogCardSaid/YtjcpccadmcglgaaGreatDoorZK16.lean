/- How the statement 'the law returns true and its arguments read as before' follows from the. -/
import Derived.Test.YtjcpccadmcglgaaGreatDoorRows
import Derived.WalkKit
import Derived.ProofKit
import Derived.OpenShut
import Derived.SizedLaws
import Derived.Lib.SmallJoins
set_option linter.unusedVariables false
set_option linter.unusedSimpArgs false
set_option maxRecDepth 100000
set_option maxHeartbeats 64000000
namespace Go.Proofs.YtjcpccadmcglgaaGreatDoor
section
open Go.ChangeShapes Go.WideShapes Go.ChangeAt Go.RowKit
theorem Tryz.own:ownKnob Tryz.prog.godebug=none:=by kernel_rfl
theorem Tryz.laidOut:laidOutB Tryz.prog=true:=by kernel_rfl
theorem sized_size {H:Type} {P:Program} {ts:List TypeId} {ds:List (DataW H)} (h:(DataW.weightsEach P ts ds).all (·<=reachBytes)=true) {j:Nat} {t:TypeId} {s:ByteArray}
 (ht:ts[j]? = some t) (hd:ds[j]? = some (.lit (.string s.data.toList))):s.size<=140737488351232:=by
 have h1:=sized_string h ht hd
 have e:s.data.toList.length=s.size:=by rw [Array.length_toList];rfl
 rw [e] at h1
 exact h1
theorem open_arr2 {H:Type} {enc:TypeId × Value->H} {P:Program} {w:World} {base b0:Nat} {spare:Nat->Bool} {held:Bool} {r:Reach} {t e:TypeId} {k:IntKind} {v:Value} {d:DataW H} {p:List MemPlace}
 (hs:P.underlying t=some (.array 2 e)) (he:P.underlying e=some (.int k)) (hC:P.cellsOf t=2) (hE:P.cellsOf e=1)
 (hv:Value.okWide P w r b0 t v) (h:DataW.Trod enc P w base spare held t v d p) :
 ∃ x y:Int,v=.agg #[.int k x,.int k y]/\d=.agg [.lit (.int k x),.lit (.int k y)]/\p=[]/\(Lit.int k x).wf=true/\(Lit.int k y).wf=true:=by
 unfold Value.okWide at hv
 rw [hs] at hv
 obtain ⟨cs,rfl,hsz,_⟩:=hv
 obtain ⟨c0,c1,rfl⟩:=Go.Joins.array2 (hsz.trans hC)
 obtain ⟨fuel,hf⟩:=h
 obtain ⟨xs,m,rfl,hx,_,hlen,hall⟩:=DataW.trod_array hs hf
 match xs,hlen with
 | [y0,y1],_ =>
  have h0:=hall 0 (by omega)
  have h1:=hall 1 (by omega)
  rw [hE] at h0 h1
  simp [Value.cells] at h0 h1
  obtain ⟨a0,e0,rfl,w0⟩:=DataW.trod_int he h0
  obtain ⟨a1,e1,rfl,w1⟩:=DataW.trod_int he h1
  simp at e0 e1
  subst e0 e1
  simp only [Prod.mk.injEq] at hx
  exact ⟨a0,a1,rfl,hx.1,hx.2,w0,w1⟩
theorem trodAll_below {H:Type} {enc:TypeId × Value->H} {P:Program} {W W':World} (hl:laidOutB P=true) (hb:Below W.heap.size W W') :
 ∀ (ts:List TypeId) (vs:List Value) (ds:List (DataW H)) (ps:List MemPlace),ts.all (fun t=>P.readableRec t && decide (t<P.types.size))=true ->
  DataW.TrodAll enc P W 0 (fun _=>true) true ts vs ds ps->(∀ x ∈ ps,x.block<W.heap.size)->DataW.TrodAll enc P W' 0 (fun b=>decide (b<W.heap.size)) true ts vs ds ps
 | [],[],[],ps,_,h,_=>h
 | t :: ts,v :: vs,d :: ds,ps,ht,h,hlt=>by
  obtain ⟨p,q,h1,h2,rfl⟩:=h
  simp only [List.all_cons,Bool.and_eq_true,decide_eq_true_eq] at ht
  refine ⟨p,q,Below.trod hl ht.1.1 ht.1.2 h1 hb (fun x hx=>hlt x (List.mem_append_left _ hx)),?_,rfl⟩
  exact trodAll_below hl hb ts vs ds q ht.2 h2 (fun x hx=>hlt x (List.mem_append_right _ hx))
 | [],_ :: _,_,_,_,h,_=>h.elim
 | [],[],_ :: _,_,_,h,_=>h.elim
 | _ :: _,[],_,_,_,h,_=>h.elim
 | _ :: _,_ :: _,[],_,_,h,_=>h.elim
theorem law_post {H:Type} {enc:TypeId × Value->H} {P:Program} {f:Func} {s:ChangeSpec} {W W':World} {args:Array Value} {ds gs:List (DataW H)} {before:List MemPlace} {B:TypeId}
 (hl:laidOutB P=true) (hts:f.params.toList.all (fun t=>P.readableRec t && decide (t<P.types.size))=true) (hr:f.resultTypes=#[B]) (hB:P.underlying B=some .bool) (hv:s.vars=[])
 (hfn:s.fn H (ds ++ gs)={ results:=[.lit (.bool true)],args:=ds })
 (hW:DataW.Whole enc P f.params.toList s.vars false W args.toList ds gs before) (hb:Below W.heap.size W W') :
 s.post enc P f false true false false W args (.bool true) W':=by
 have hlt:∀ x ∈ before,x.block<W.heap.size:=fun x hx=>by simpa using hW.lt x hx
 have hW':=hW
 obtain ⟨p,q,hA,hV,rfl,hfz,_⟩:=hW
 rw [hv] at hV
 obtain ⟨rfl,rfl⟩:=trodVars_none hV
 simp only [List.append_nil] at *
 refine ⟨ds,[],p,[],p,[],hW',?_,?_,?_,hb.frame _,fun h=>by cases h⟩
 · simp only [List.append_nil]
   rw [hfn,hr]
   exact trodAll_mk1 (shut_bool hB true)
 · simp only [List.append_nil]
   rw [hfn]
   exact trodAll_below hl hb _ _ _ _ hts hA hlt
 · simp only [List.append_nil]
   rw [hfn,hv]
   rfl
end
end Go.Proofs.YtjcpccadmcglgaaGreatDoor
