/- A map of function values that the call makes. -/
import Derived.Test.YtjcpccadmcglgaaGreatDoorZK8
import Derived.Maps.OwnOps
import Derived.Maps.OwnSet
set_option linter.unusedVariables false
set_option linter.unusedSimpArgs false
set_option maxRecDepth 100000
set_option maxHeartbeats 64000000
namespace Go.Proofs.YtjcpccadmcglgaaGreatDoor
section
open Go Go.RowKit Go.Maps
noncomputable def fnElem (fs:List Value) (v:Value):Option (DataW Unit × List MemPlace) :=
 (fs.findIdx? (fun u=>@decide (u=v) (Classical.propDecidable _))).map fun (i:Nat)=>(.lit (.int .i64 (i:Int)),[])
theorem fnElem_inv {fs:List Value} {v:Value} {z:DataW Unit × List MemPlace} (h:fnElem fs v=some z):∃ (i:Nat) (hi:i<fs.length),v=fs[i]/\z=(.lit (.int .i64 i),[]):=by
 unfold fnElem at h
 rw [Option.map_eq_some_iff] at h
 obtain ⟨i,h1,h2⟩:=h
 rw [List.findIdx?_eq_some_iff_getElem] at h1
 obtain ⟨hi,h3,_⟩:=h1
 exact ⟨i,hi,(by simpa using h3:fs[i]=v).symm,h2.symm⟩
theorem fnElem_get {fs:List Value} {v:Value} {i:Nat} (hi:i<fs.length) (hv:fs[i]=v) (hb:∀ j (hj:j<i),fs[j]'(by omega) ≠ v):fnElem fs v=some (.lit (.int .i64 i),[]):=by
 unfold fnElem
 have:fs.findIdx? (fun u=>@decide (u=v) (Classical.propDecidable _))=some i:=by
  rw [List.findIdx?_eq_some_iff_getElem]
  exact ⟨hi,by simpa using hv,fun j hj=>by simpa using hb j hj⟩
 rw [this];rfl
theorem wpList_insert_own {H:Type} {P:Program} (w:World) {ops:Array Oper} {rest:List Oper} {o:Oper} {a:Act} {Q:Exit->Act->World->Prop}
 (hg:o.guard=none) (m x v:Operand) (t:TypeId) (hop:o.op=Op.insert t m x v)
 (k e:TypeId) (K:Keyed P k) (ht:P.underlying t=some (.map k e)) (R:Value->Option (DataW H × List MemPlace)) (b n:Nat) (D:DataW H)
 (hm:a.eval m=.map (some b)) (hown:w.ownsMap P k R b n D) (hn:n<maxLen) (key val:Value) (kl:Lit) (hx:a.eval x=key) (hv:a.eval v=val) (hkey:keyOf P k key=some kl)
 (d:DataW H) (ps:List MemPlace) (hval:R val=some (d,ps))
 (hK:∀ w',w'.ownsMap P k R b (n+1) (D.put kl d)->w.grownBy w' (some b)->wpList P ops Q rest (a.put o.dst undef) w') :
 wpList P ops Q (o :: rest) a w:=by
 refine wpList_plain hg fun K' hK'=>?_
 obtain ⟨w',hrun,r1,r2⟩:=hown.update K ht hn hkey hval
 unfold Oper.wp
 simp [execOp,hop,hm,hx,hv,hrun,Result.andThen]
 exact hK' _ _ (hK w' r1 r2)
theorem int_lit_ne {a b:Int} (h:a ≠ b):(Lit.int .i64 a) ≠ .int .i64 b:=by
 intro e
 simp only [Lit.int.injEq,true_and] at e
 exact h e
end
end Go.Proofs.YtjcpccadmcglgaaGreatDoor
