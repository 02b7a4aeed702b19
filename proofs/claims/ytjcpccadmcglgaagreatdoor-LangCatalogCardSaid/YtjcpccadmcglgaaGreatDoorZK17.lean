/- What a slice of integers among a law's arguments holds in memory. -/
import Derived.Test.YtjcpccadmcglgaaGreatDoorZK16
import Derived.Test.YtjcpccadmcglgaaGreatDoorZK13
import Derived.Deep.Slices
import Derived.ChangeArms
set_option linter.unusedVariables false
set_option linter.unusedSimpArgs false
set_option maxRecDepth 100000
set_option maxHeartbeats 64000000
namespace Go.Proofs.YtjcpccadmcglgaaGreatDoor
section
open Go.ChangeShapes Go.WideShapes Go.ChangeAt Go.RowKit
section
variable {H:Type} {enc:TypeId × Value->H} {P:Program} {w:World} {spare:Nat->Bool} {held:Bool} {r:Reach} {b0:Nat}
theorem view_at {t e:TypeId} {v:Value} {d:DataW H} {p:List MemPlace} {sz bytes:Nat} (hs:P.underlying t=some (.slice e)) (hsz:P.cellsOf e=sz) (hpos:0<sz)
 (hby:P.bytesOf e=bytes) (hv:∃ a0 len cap,v=.slice a0 len cap) (h:DataW.Trod enc P w 0 (fun _=>true) true t v d p)
 (hreach:∀ elems sp,d=.slice elems sp->(elems.length+sp.length) * P.bytesOf e<=reachBytes) :
 ∃ (a:Option Addr) (n cap:Nat),v=.slice a n cap/\n<=cap/\cap * bytes<=140737488351232 /\
  (n=0 \/ ∃ b off,a=some ⟨b,off,none⟩/\∀ i,i<n->∃ cs m y,cs.length=sz/\(∀ j,j<sz->w.cell? ⟨b,off+i * sz+j,none⟩=cs[j]?)/\DataW.trod enc P w 0 (fun _=>true) true m e cs=some y):=by
 obtain ⟨a0,len,cap,rfl⟩:=hv
 obtain ⟨fuel,hf⟩:=h
 rcases Go.Deep.open_slice hs hf with ⟨hcs,hx⟩|⟨a,len',cap',m,n,D,Pl,hcs,hb,hl,hm,hmm,hx,hel⟩
 · simp [Value.cells] at hcs
   obtain ⟨rfl,rfl,rfl⟩:=hcs
   exact ⟨none,0,0,rfl,jR _,by omega,Or.inl rfl⟩
 · simp [Value.cells] at hcs
   obtain ⟨rfl,rfl,rfl⟩:=hcs
   simp only [Prod.mk.injEq] at hx
   have hmc:m=cap:=by simpa using hmm
   have hr:=hreach _ _ hx.1
   simp only [List.length_map,List.length_range] at hr
   have e1:len+(m - len)=cap:=by omega
   rw [e1,hby] at hr
   refine ⟨some a,len,cap,rfl,hl,hr,?_⟩
   rcases Nat.eq_zero_or_pos len with h0|h0
   · exact Or.inl h0
   right
   obtain ⟨b,off,spot⟩:=a
   have hcell:∀ i,i<len->∃ cs y,cs.length=sz/\(∀ j,j<sz->w.cell? ((((⟨b,off,spot⟩:Addr).add (i * sz)).add j))=cs[j]?)/\(∀ j,j<sz->cs[j]? ≠ none)/\DataW.trod enc P w 0 (fun _=>true) true n e cs=some y:=by
    intro i hi
    obtain ⟨cs,h1,h2⟩:=hel i (by omega)
    rw [hsz] at h1
    obtain ⟨_,h3,h4⟩:=World.cells?_some h1
    refine ⟨cs,_,h3,fun j hj=>h4 j hj,fun j hj=>?_,h2⟩
    rw [List.getElem?_eq_getElem (by omega)]
    simp
   have hspot:spot=none:=by
    obtain ⟨cs,y,h1,h2,h3,_⟩:=hcell 0 h0
    have h4:=h2 0 hpos
    have h5:=h3 0 hpos
    cases hv0:cs[0]? with
    | none=>exact absurd hv0 h5
    | some v0 =>
     rw [hv0] at h4
     simpa [Addr.add] using World.cell?_spot h4
   subst hspot
   refine ⟨b,off,rfl,fun i hi=>?_⟩
   obtain ⟨cs,y,h1,h2,_,h4⟩:=hcell i hi
   refine ⟨cs,n,y,h1,fun j hj=>?_,h4⟩
   rw [<- h2 j hj]
   congr 1
   have e1:(⟨b,off,none⟩:Addr).add (i * sz)=⟨b,off+i * sz,none⟩:=by unfold Addr.add;split <;> simp_all
   have e2:(⟨b,off+i * sz,none⟩:Addr).add j=⟨b,off+i * sz+j,none⟩:=by unfold Addr.add;split <;> simp_all
   rw [e1,e2]
theorem list_of {α:Type} [Inhabited α] {n:Nat} {p:Nat->α->Prop} (h:∀ i,i<n->∃ x,p i x):∃ l:List α,l.length=n/\∀ i,i<n->p i (l.getD i default):=by
 obtain ⟨f,hf⟩:=Go.Deep.choose_lt h
 refine ⟨(List.range n).map f,by simp,fun i hi=>?_⟩
 have:((List.range n).map f).getD i default=f i:=by simp [List.getD,hi]
 rw [this]
 exact hf i hi
def IntsAt (w:World) (a:Option Addr) (Z:List Int) (n:Nat):Prop :=
 Z.length=n/\(n=0 \/ ∃ b off,a=some ⟨b,off,none⟩/\∀ t,t<n->w.cell? ⟨b,off+t,none⟩=some (.int .i64 (Z.getD t 0)))
theorem ints_at {t e:TypeId} {v:Value} {d:DataW H} {p:List MemPlace} (hs:P.underlying t=some (.slice e)) (he:P.underlying e=some (.int .i64)) (hc:P.cellsOf e=1) (hby:P.bytesOf e=8)
 (hv:∃ a0 len cap,v=.slice a0 len cap) (h:DataW.Trod enc P w 0 (fun _=>true) true t v d p)
 (hreach:∀ elems sp,d=.slice elems sp->(elems.length+sp.length) * P.bytesOf e<=reachBytes) :
 ∃ (a:Option Addr) (n cap:Nat) (Z:List Int),v=.slice a n cap/\IntsAt w a Z n/\(n<=cap/\cap * 8<=140737488351232)/\(∀ t,-9223372036854775808<=Z.getD t 0/\Z.getD t 0<=9223372036854775807):=by
 obtain ⟨a,n,cap,hv,hn,hb,hel⟩:=view_at hs hc (by omega) hby hv h hreach
 have each:∀ i,i<n->∃ x:Int,(∃ b off,a=some ⟨b,off,none⟩/\w.cell? ⟨b,off+i,none⟩=some (.int .i64 x))/\-9223372036854775808<=x/\x<=9223372036854775807:=by
  intro i hi
  rcases hel with h0|⟨b,off,ha,hel⟩
  · omega
  obtain ⟨cs,m,y,h1,h2,h3⟩:=hel i hi
  obtain ⟨x,rfl,rfl,wx⟩:=DataW.trod_int he h3
  have h4:=h2 0 (by omega)
  simp only [Nat.mul_one,Nat.add_zero] at h4
  exact ⟨x,⟨b,off,ha,h4⟩,by simpa [Lit.wf,IntKind.min,IntKind.max,IntKind.signed,IntKind.bits] using wx⟩
 obtain ⟨Z,hZ,hZ2⟩:=list_of each
 refine ⟨a,n,cap,Z,hv,⟨hZ,?_⟩,⟨hn,hb⟩,fun t=>?_⟩
 · rcases Nat.eq_zero_or_pos n with h0|h0
   · exact Or.inl h0
   · obtain ⟨⟨b,off,ha,_⟩,_⟩:=hZ2 0 h0
     refine Or.inr ⟨b,off,ha,fun t ht=>?_⟩
     obtain ⟨⟨b',off',ha',hc'⟩,_⟩:=hZ2 t ht
     rw [ha] at ha'
     simp only [Option.some.injEq,Addr.mk.injEq] at ha'
     obtain ⟨rfl,rfl,_⟩:=ha'
     exact hc'
 · rcases Nat.lt_or_ge t n with ht|ht
   · exact (hZ2 t ht).2
   · have e:Z.getD t 0=0:=by simp [List.getD,List.getElem?_eq_none (show Z.length<=t by omega)]
     rw [e];omega
end
def Rng (x:Int):Prop:=-9223372036854775808<=x/\x<=9223372036854775807
theorem free_of_trod {H:Type} {enc:TypeId × Value->H} {P:Program} {w:World} {fuel:Nat} {t e:TypeId} {b off n cap sz:Nat} {y:DataW H × List MemPlace} (hs:P.underlying t=some (.slice e)) (hc:P.cellsOf e=sz)
 (hf:DataW.trod enc P w 0 (fun _=>true) true fuel t [.slice (some ⟨b,off,none⟩) n cap]=some y) (hz:w.noneFrozen y.2):∀ j,j<n * sz->w.frozen? ⟨b,off+j,none⟩=false:=by
 intro j hj
 rcases DataW.trod_slice hs hf with ⟨h,_⟩|⟨a,len,cap',elems,rest,m,_,h,rfl,_,_,_,hl,_⟩
 · simp at h
 · simp only [List.cons.injEq,Value.slice.injEq,Option.some.injEq,and_true] at h
   obtain ⟨rfl,rfl,rfl⟩:=h
   refine hz b (off+j) (List.mem_append_left _ (List.mem_map.2 ⟨j,List.mem_range.2 ?_,rfl⟩))
   rw [hc,hl]
   exact jL hj (Nat.mul_le_mul_right _ (Nat.le_add_right _ _))
theorem sl_of_trod {H:Type} {enc:TypeId × Value->H} {w:World} {fuel:Nat} {c:Value} {y:DataW H × List MemPlace} (hf:DataW.trod enc Tryz.prog w 0 (fun _=>true) true fuel 37 [c]=some y) (hfz:w.noneFrozen y.2)
 (hreach:∀ elems sp,y.1=.slice elems sp->(elems.length+sp.length) * Tryz.prog.bytesOf 3<=reachBytes) :
 ∃ a cap Z,c=.slice a Z.length cap/\SlV intR (fun _=>True) w (.slice a Z.length cap) Z/\∀ x ∈ Z,Rng x:=by
 have hform:∃ a0 len cap,c=.slice a0 len cap:=by
  rcases DataW.trod_slice Tryz.underlying37 hf with ⟨h,_⟩|⟨a,len,cap,_,_,_,_,h,_⟩
  · exact ⟨_,_,_,by simpa using h⟩
  · exact ⟨_,_,_,by simpa using h⟩
 obtain ⟨a0,len,cap,rfl⟩:=hform
 obtain ⟨a,n,cap',Z,hv,⟨hl,hz⟩,⟨hn,hb⟩,hr⟩:=ints_at (d:=y.1) (p:=y.2) Tryz.underlying37 Tryz.underlying3 (by kernel_rfl) (by kernel_rfl) ⟨a0,len,cap,rfl⟩ ⟨fuel,by simpa [Value.cells] using hf⟩ hreach
 subst hl
 refine ⟨a,cap',Z,hv,⟨a,cap',rfl,hn,by omega,?_⟩,fun x hx=>?_⟩
 · rcases hz with h0|⟨b,off,rfl,hc⟩
   · exact Or.inl (List.eq_nil_of_length_eq_zero h0)
   · rcases Nat.eq_zero_or_pos Z.length with h0|h0
     · exact Or.inl (List.eq_nil_of_length_eq_zero h0)
     · refine Or.inr ⟨b,off,rfl,trivial,⟨World.block_lt_of_cell? w _ (hc 0 h0),free_of_trod (sz:=1) Tryz.underlying37 (by kernel_rfl) (by rw [hv] at hf;exact hf) hfz⟩,fun t ht=>⟨[.int .i64 Z[t]],fun j hj=>?_,rfl⟩⟩
       have hj0:j=0:=by simp [intR] at hj;exact hj
       subst hj0
       have:=hc t ht
       rw [List.getD_eq_getElem?_getD,List.getElem?_eq_getElem ht] at this
       simpa [intR] using this
 · obtain ⟨t,ht,rfl⟩:=List.getElem_of_mem hx
   have:=hr t
   rw [List.getD_eq_getElem?_getD,List.getElem?_eq_getElem ht] at this
   exact this
theorem open_ints {H:Type} {enc:TypeId × Value->H} {w:World} {b0:Nat} {v:Value} {d:DataW H} {p:List MemPlace} {ts:List TypeId} {ds:List (DataW H)} {j:Nat} (hv:Value.okWide Tryz.prog w .any b0 37 v) (h:DataW.Trod enc Tryz.prog w 0 (fun _=>true) true 37 v d p) (hfz:w.noneFrozen p)
 (hw:(DataW.weightsEach Tryz.prog ts ds).all (·<=reachBytes)=true) (ht:ts[j]? = some 37) (hd:ds[j]? = some d) :
 ∃ a cap Z,v=.slice a (List.length Z) cap/\SlV intR (fun _=>True) w (.slice a Z.length cap) Z/\∀ x ∈ Z,Rng x:=by
 obtain ⟨a0,len,cap,rfl⟩:=okWide_slice Tryz.underlying37 hv
 obtain ⟨fuel,hf⟩:=h
 exact sl_of_trod (y:=(d,p)) (by simpa [Value.cells] using hf) hfz (fun elems sp he=>sized_slice hw ht (by rw [<- show d=_ from he];exact hd) Tryz.underlying37)
end
section
open Go.ChangeShapes Go.WideShapes Go.ChangeAt Go.RowKit
def IntsC (w:World) (a:Option Addr) (Z:List Int):Prop:=Z=[] \/ ∃ b off,a=some ⟨b,off,none⟩/\b<w.heap.size/\∀ t (h:t<Z.length),w.cell? ⟨b,off+t,none⟩=some (.int .i64 Z[t])
theorem IntsC.below {w w':World} {a:Option Addr} {Z:List Int} (h:IntsC w a Z) (hb:Below w.heap.size w w'):IntsC w' a Z:=by
 rcases h with h|⟨b,off,h1,h2,h3⟩
 · exact Or.inl h
 · exact Or.inr ⟨b,off,h1,jL h2 hb.size,fun t ht=>(hb.cell (p:=⟨b,off+t,none⟩) h2).trans (h3 t ht)⟩
def RowsC (w:World) (aR:Option Addr) (n:Nat):Prop :=
 n=0 \/ ∃ b off,aR=some ⟨b,off,none⟩/\b<w.heap.size/\∀ i,i<n->∃ a cap Z,w.cell? ⟨b,off+i,none⟩=some (.slice a (List.length Z) cap)/\IntsC w a Z/\(∀ x ∈ Z,Rng x)/\Z.length<=140737488355328
theorem RowsC.below {w w':World} {aR:Option Addr} {n:Nat} (h:RowsC w aR n) (hb:Below w.heap.size w w'):RowsC w' aR n:=by
 rcases h with h|⟨b,off,h1,h2,h3⟩
 · exact Or.inl h
 · refine Or.inr ⟨b,off,h1,jL h2 hb.size,fun i hi=>?_⟩
   obtain ⟨a,cap,Z,h4,h5,h6⟩:=h3 i hi
   exact ⟨a,cap,Z,(hb.cell (p:=⟨b,off+i,none⟩) h2).trans h4,h5.below hb,h6⟩
theorem weightsAll_mem {H:Type} {P:Program} {e:TypeId}:∀ {l:List (DataW H)} {d:DataW H},d ∈ l->∀ n ∈ d.weights P e,n ∈ DataW.weightsAll P e l
 | x :: l,d,h,n,hn=>by
  simp only [DataW.weightsAll,List.mem_append]
  rcases List.mem_cons.1 h with rfl|h
  · exact Or.inl hn
  · exact Or.inr (weightsAll_mem h n hn)
theorem intsC_of_trod {H:Type} {enc:TypeId × Value->H} {w:World} {fuel:Nat} {c:Value} {y:DataW H × List MemPlace} (hf:DataW.trod enc Tryz.prog w 0 (fun _=>true) true fuel 37 [c]=some y)
 (hreach:∀ elems sp,y.1=.slice elems sp->(elems.length+sp.length) * Tryz.prog.bytesOf 3<=reachBytes) :
 ∃ a cap Z,c=.slice a (List.length Z) cap/\IntsC w a Z/\(∀ x ∈ Z,Rng x)/\Z.length<=140737488355328:=by
 have hform:∃ a0 len cap,c=.slice a0 len cap:=by
  rcases DataW.trod_slice Tryz.underlying37 hf with ⟨h,_⟩|⟨a,len,cap,_,_,_,_,h,_⟩
  · exact ⟨_,_,_,by simpa using h⟩
  · exact ⟨_,_,_,by simpa using h⟩
 obtain ⟨a0,len,cap,rfl⟩:=hform
 obtain ⟨a,n,cap',Z,hv,⟨hl,hz⟩,⟨hn,hb⟩,hr⟩:=ints_at (d:=y.1) (p:=y.2) Tryz.underlying37 Tryz.underlying3 (by kernel_rfl) (by kernel_rfl) ⟨a0,len,cap,rfl⟩ ⟨fuel,by simpa [Value.cells] using hf⟩ hreach
 subst hl
 refine ⟨a,cap',Z,hv,?_,fun x hx=>?_,by omega⟩
 · rcases hz with h0|⟨b,off,rfl,hc⟩
   · exact Or.inl (List.eq_nil_of_length_eq_zero h0)
   · rcases Nat.eq_zero_or_pos Z.length with h0|h0
     · exact Or.inl (List.eq_nil_of_length_eq_zero h0)
     · refine Or.inr ⟨b,off,rfl,World.block_lt_of_cell? w _ (hc 0 h0),fun t ht=>?_⟩
       have:=hc t ht
       rw [List.getD_eq_getElem?_getD,List.getElem?_eq_getElem ht] at this
       exact this
 · obtain ⟨t,ht,rfl⟩:=List.getElem_of_mem hx
   have:=hr t
   rw [List.getD_eq_getElem?_getD,List.getElem?_eq_getElem ht] at this
   exact this
theorem open_rowsc {H:Type} {enc:TypeId × Value->H} {w:World} {b0:Nat} {v:Value} {d:DataW H} {p:List MemPlace} {ts:List TypeId} {ds:List (DataW H)} {j:Nat} (hv:Value.okWide Tryz.prog w .any b0 22 v) (h:DataW.Trod enc Tryz.prog w 0 (fun _=>true) true 22 v d p) (_:w.noneFrozen p)
 (hw:(DataW.weightsEach Tryz.prog ts ds).all (·<=reachBytes)=true) (ht:ts[j]? = some 22) (hd:ds[j]? = some d) :
 ∃ a n cap,v=.slice a n cap/\RowsC w a n/\n<=140737488355328:=by
 have c1:Tryz.prog.cellsOf 37=1:=by kernel_rfl
 obtain ⟨a0,len,cap,rfl⟩:=okWide_slice Tryz.underlying22 hv
 obtain ⟨fuel,hf⟩:=h
 rcases Go.Deep.open_slice Tryz.underlying22 hf with ⟨hcs,hx⟩|⟨a,len',cap',m,n,D,Pl,hcs,hb,hl,hm,hmm,hx,hel⟩
 · simp [Value.cells] at hcs
   obtain ⟨rfl,rfl,rfl⟩:=hcs
   exact ⟨none,0,0,rfl,Or.inl rfl,by omega⟩
 · simp [Value.cells] at hcs
   obtain ⟨rfl,rfl,rfl⟩:=hcs
   simp only [Prod.mk.injEq] at hx
   have hmc:m=cap:=by simpa using hmm
   have hdd:=hx.1
   have hsl:=sized_slice hw ht (by rw [<- hdd];exact hd) Tryz.underlying22
   rw [show Tryz.prog.bytesOf 37=24 from by kernel_rfl] at hsl
   simp only [List.length_map,List.length_range] at hsl
   have hrb:reachBytes=140737488351232:=rfl
   refine ⟨some a,len,cap,rfl,?_,by omega⟩
   rcases Nat.eq_zero_or_pos len with h0|h0
   · exact Or.inl h0
   right
   obtain ⟨b,off,spot⟩:=a
   have hcell:∀ i,i<len->∃ c,w.cell? ((⟨b,off,spot⟩:Addr).add i)=some c/\DataW.trod enc Tryz.prog w 0 (fun _=>true) true n 37 [c]=some (D i,Pl i):=by
    intro i hi
    obtain ⟨cs,h1,h2⟩:=hel i (by omega)
    rw [c1,Nat.mul_one] at h1
    obtain ⟨_,h3,h4⟩:=World.cells?_some h1
    match cs,h3 with
    | [c],_ =>
     have h5:=h4 0 (by omega)
     simp only [List.getElem?_cons_zero] at h5
     refine ⟨c,?_,h2⟩
     rw [<- h5]
     try rfl
     try (congr 1;unfold Addr.add;split <;> simp_all)
   have hspot:spot=none:=by
    obtain ⟨c,h1,_⟩:=hcell 0 h0
    simpa [Addr.add] using World.cell?_spot h1
   subst hspot
   have hadd:∀ i,(⟨b,off,none⟩:Addr).add i=⟨b,off+i,none⟩:=fun i=>by unfold Addr.add;split <;> simp_all
   refine ⟨b,off,rfl,?_,fun i hi=>?_⟩
   · obtain ⟨c,h1,_⟩:=hcell 0 h0
     exact World.block_lt_of_cell? w _ (by rw [hadd] at h1;exact h1)
   · obtain ⟨c,h1,h2⟩:=hcell i hi
     rw [hadd] at h1
     obtain ⟨az,cz,Z,rfl,hz,hr,hl⟩:=intsC_of_trod (y:=(D i,Pl i)) h2 (fun elems sp he=>by
      have:=List.all_eq_true.1 hw _ (DataW.weights_mem_each ht hd ((elems.length+sp.length) * Tryz.prog.bytesOf 3) (by
       rw [hdd]
       simp only [DataW.weights,Tryz.underlying22,List.mem_cons,List.mem_append]
       refine Or.inr (Or.inl (weightsAll_mem (List.mem_map.2 ⟨i,List.mem_range.2 hi,rfl⟩) _ ?_))
       rw [show D i=_ from he]
       simp [DataW.weights,Tryz.underlying37]))
      simpa using this)
     exact ⟨az,cz,Z,h1,hz,hr,hl⟩
end
end Go.Proofs.YtjcpccadmcglgaaGreatDoor
