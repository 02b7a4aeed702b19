/- (*Catalog).Bytes: a function of the tables alone. -/
import Derived.Test.YtjcpccadmcglgaaGreatDoorZK26
import Derived.Test.YtjcpccadmcglgaaGreatDoorZK13
import Derived.Test.YtjcpccadmcglgaaGreatDoorZK9
import Derived.Test.YtjcpccadmcglgaaGreatDoorZK27
set_option linter.unusedVariables false
set_option linter.unusedSimpArgs false
set_option maxRecDepth 100000
set_option maxHeartbeats 64000000
namespace Go.Proofs.YtjcpccadmcglgaaGreatDoor
open Go.Lib (hid)
section
open Go.RowKit
def colB (x:ByteArray × Int):List UInt8:=textOf x.1 ++ be 1 x.2
def ixB (x:Ix):List UInt8:=textOf x.name ++ be 1 x.cols.length ++ x.cols.flatMap (be 1) ++ be 2 x.root
def tabB (t:Tab):List UInt8:=textOf t.name ++ be 1 t.cols.length ++ t.cols.flatMap colB ++ be 1 t.idx.length ++ t.idx.flatMap ixB
def catB (C:List Tab):List UInt8:=be 1 C.length ++ C.flatMap tabB
theorem text_len {s:ByteArray} (hs:s.size<=12):(textOf s).length=s.size+2:=by
 unfold textOf
 rw [List.length_append,be_len,cutTo_short (by omega),toList_size]
 omega
theorem row_at {α:Type} {enc:α->List Value} {sz:Nat} {w:World} {B:Nat} {e:TypeId} {v:Value} {n:Nat} {M:List α} (hl:∀ x,(enc x).length=sz) (h:w.ownsRow B e sz v n (M.flatMap enc)) (hn:M.length=n) (t:Nat) (ht:t<M.length) :
 ∃ g c,v=.slice (some ⟨g,0,none⟩) n c/\g<w.heap.size/\∀ j,j<sz->w.cell? ⟨g,t * sz+j,none⟩=(enc M[t])[j]? := by
 rcases h.2 with ⟨_,h0⟩|⟨g,cap,cur,rfl,_,hg,_⟩
 · omega
 refine ⟨g,cap,rfl,jB hg,fun j hj=>?_⟩
 have hc:=flat_part hl M t ht
 have hlt:t * sz+j<n * sz:=by
  have h1:(t+1) * sz<=n * sz:=Nat.mul_le_mul_right _ (by omega)
  rw [Nat.succ_mul] at h1
  omega
 rw [World.ownsRow.cellAt h _ hlt,<- hc,List.getElem?_take_of_lt hj,List.getElem?_drop]
theorem row_int {w:World} {B:Nat} {v:Value} {Z:List Int} (h:w.ownsRow B 3 1 v Z.length (Z.map (.int .i64))) (t:Nat) (ht:t<Z.length):∃ g c,v=.slice (some ⟨g,0,none⟩) Z.length c/\w.cell? ⟨g,t,none⟩=some (.int .i64 Z[t]):=by
 rcases h.2 with ⟨_,h0⟩|⟨g,cap,cur,rfl,_,hg,_⟩
 · omega
 refine ⟨g,cap,rfl,?_⟩
 rw [World.ownsRow.cellAt h _ (by omega),List.getElem?_map,List.getElem?_eq_getElem ht]
 rfl
structure TR (B:Nat) (C:List Tab) (v:Value) (vs:List (Value × Value)) (us:Nat->List Value) (w:World):Prop where
 len:vs.length=C.length
 own:w.ownsRow B 90 4 v C.length ((C.zip vs).flatMap tabCells)
 col:∀ t (h:t<C.length) (k:t<vs.length),ColOwn B C[t].cols vs[t].1 w
 ul:∀ t (h:t<C.length),(us t).length=C[t].idx.length
 ix:∀ t (h:t<C.length) (k:t<vs.length),w.ownsRow B 93 3 vs[t].2 C[t].idx.length ((C[t].idx.zip (us t)).flatMap ixCells)
 int:∀ t (h:t<C.length),IxParts B C[t].idx (us t) w
theorem TabOwn.tr {B:Nat} {C:List Tab} {v:Value} {w:World} (h:TabOwn B C v w):∃ vs us,TR B C v vs us w:=by
 obtain ⟨vs,h1,h2,h3⟩:=h
 have hx:∀ t,∃ u:List Value,∀ (h:t<C.length) (k:t<vs.length),u.length=C[t].idx.length/\w.ownsRow B 93 3 vs[t].2 C[t].idx.length ((C[t].idx.zip u).flatMap ixCells)/\IxParts B C[t].idx u w:=by
  intro t
  by_cases ht:t<C.length
  · obtain ⟨u,k1,k2,k3⟩:=(h3 t ht (by omega)).2
    exact ⟨u,fun _ _=>⟨k1,k2,k3⟩⟩
  · exact ⟨[],fun h=>absurd h ht⟩
 obtain ⟨us,hus⟩:=Classical.axiomOfChoice hx
 exact ⟨vs,us,h1,h2,fun t h k=>(h3 t h k).1,fun t h=>(hus t h (by omega)).1,fun t h k=>(hus t h k).2.1,fun t h=>(hus t h (by omega)).2.2⟩
theorem owns_others {w w':World} {B b:Nat} {e:TypeId} {sz:Nat} {v:Value} {n:Nat} {xs:List Value} (h:w.ownsRow B e sz v n xs) (ho:Lib.OthersKept 5 (some b) w w') (hb:b<B) (h1:e ≠ 5):w'.ownsRow B e sz v n xs :=
 owns_same h fun g hg=>by
  obtain ⟨c,f,hq⟩:=owns_type h hg
  rw [hq]
  refine ho g _ hq (fun e'=>?_) (fun c' f' e'=>?_)
  · cases e'
    have:=(h.lt b hg).1
    omega
  · simp only [Obj.cells.injEq] at e'
    exact h1 e'.2.1
theorem TR.others {B b:Nat} {C:List Tab} {v:Value} {vs:List (Value × Value)} {us:Nat->List Value} {w w':World} (h:TR B C v vs us w) (ho:Lib.OthersKept 5 (some b) w w') (hb:b<B):TR B C v vs us w' :=
 ⟨h.len,owns_others h.own ho hb (by decide),fun t k1 k2=>owns_others (h.col t k1 k2) ho hb (by decide),h.ul,fun t k1 k2=>owns_others (h.ix t k1 k2) ho hb (by decide),fun t k1 s k2 k3=>owns_others (h.int t k1 s k2 k3) ho hb (by decide)⟩
structure BS (w:World) (B:Nat) (C:List Tab) (v:Value) (vs:List (Value × Value)) (us:Nat->List Value) (qs:List (Nat × Array Value × TypeId)) (l:List UInt8) (w':World):Prop where
 k:Lib.IsBuilderF 80 5 w.heap.size w.heap.size (Lib.byteCells l) w'
 b:Below w.heap.size w w'
 t:TR B C v vs us w'
 q:∀ x ∈ qs,w'.heap[x.1]? = some (.cells x.2.1 x.2.2 (0,0))/\w.heap.size<x.1/\x.2.2 ≠ 5
section
variable {w w1:World} {B:Nat} {C:List Tab} {v:Value} {vs:List (Value × Value)} {us:Nat->List Value} {qs:List (Nat × Array Value × TypeId)} {l:List UInt8}
theorem BS.move {l':List UInt8} {w2:World} (h:BS w B C v vs us qs l w1) (hB:w.heap.size<B) (hk:Lib.IsBuilderF 80 5 w.heap.size w.heap.size (Lib.byteCells l') w2) (hb:Below w.heap.size w1 w2) (ho:Lib.OthersKept 5 (some w.heap.size) w1 w2):BS w B C v vs us qs l' w2 :=
 ⟨hk,h.b.trans hb,h.t.others ho hB,fun x hx=>by
  obtain ⟨h1,h2,h3⟩:=h.q x hx
  refine ⟨ho _ _ h1 (fun e=>?_) (fun c f e=>?_),h2,h3⟩
  · have:=jI e;omega
  · simp only [Obj.cells.injEq] at e
    exact h3 e.2.1⟩
theorem BS.below {w2:World} (h:BS w B C v vs us qs l w1) (hB:w.heap.size<B) (hb:Below w1.heap.size w1 w2):BS w B C v vs us qs l w2 :=
 h.move hB (isb_below h.k hb) (hb.mono h.b.size) (fun k o h _ _=>(hb.block k (jB h)).trans h)
theorem BS.alloc {cs:Array Value} {T:TypeId} (h:BS w B C v vs us qs l w1) (hB:w.heap.size<B) (hb:w.heap.size<w1.heap.size) (hT:T ≠ 5):BS w B C v vs us ((w1.heap.size,cs,T) :: qs) l (w1.alloc (.cells cs T)):=by
 have h2:=h.below hB ((b0R).alloc (jR _) (.cells cs T))
 refine ⟨h2.k,h2.b,h2.t,fun x hx=>?_⟩
 rcases List.mem_cons.1 hx with rfl|hx
 · exact ⟨heap_alloc_new _ _,hb,hT⟩
 · exact h2.q x hx
theorem BS.less {x:Nat × Array Value × TypeId} (h:BS w B C v vs us (x :: qs) l w1):BS w B C v vs us qs l w1:=⟨h.k,h.b,h.t,fun y hy=>h.q y (List.mem_cons_of_mem _ hy)⟩
theorem bs_ws (s:ByteArray) (h:BS w B C v vs us qs l w1) (hB:w.heap.size<B) (hlen:l.length+s.size<=140737488355328) :
 Calls Tryz.prog 22 #[.pointer (some ⟨w.heap.size,0,none⟩),.string s] w1 fun e w'=>e=.returned (.tuple #[.int .i64 s.size,.nilIface])/\BS w B C v vs us qs (l ++ s.data.toList) w' :=
 (Tryz.Builder_WriteString_k w.heap.size w.heap.size (Lib.byteCells l) s w1 h.k (by simpa [Lib.byteCells] using hlen) h.b.size).mono fun _ _ ⟨h0,h1,h2,h3⟩ =>
  ⟨h0,h.move hB (by rw [show Lib.byteCells (l ++ s.data.toList)=Lib.byteCells l ++ Lib.strCells s by simp [Lib.byteCells,Lib.strCells]];exact Or.inr h1) h2 h3⟩
theorem clamp1:clamp8 1=1:=rfl
theorem clamp2:clamp8 2=2:=rfl
theorem bs_bytes (L:List UInt8) (h:BS w B C v vs us qs l w1) (hB:w.heap.size<B) (hlen:l.length+L.length<=140737488355328) :
 Calls Tryz.prog 22 #[.pointer (some ⟨w.heap.size,0,none⟩),.string ⟨L.toArray⟩] w1 fun e w'=>e=.returned (.tuple #[.int .i64 (⟨L.toArray⟩:ByteArray).size,.nilIface])/\BS w B C v vs us qs (l ++ L) w' :=
 bs_ws ⟨L.toArray⟩ h hB hlen
theorem bs_text (s:ByteArray) (hs:s.size<=12) (h:BS w B C v vs us qs l w1) (hB:w.heap.size<B):Calls Tryz.prog 25 #[.string s] w1 fun e w'=>e=.returned (.string ⟨(textOf s).toArray⟩)/\BS w B C v vs us qs l w' :=
 (otext_any s w1 (by unfold maxLen;omega)).mono fun _ _ ⟨h0,h1⟩=>⟨h0,h.below hB h1⟩
theorem bs_put (n:Int) (h:BS w B C v vs us qs l w1) (hB:w.heap.size<B):Calls Tryz.prog 23 #[.int .i64 n,.int .i64 2] w1 fun e w'=>e=.returned (.string ⟨(be 2 n).toArray⟩)/\BS w B C v vs us qs l w' :=
 (put_any n 2 w1).mono fun _ _ ⟨h0,h1⟩=>⟨h0,h.below hB h1⟩
theorem bs_one (n:Int) (h:BS w B C v vs us qs l w1) (hB:w.heap.size<B) (hlen:l.length+1<=140737488355328) :
 Calls Tryz.prog 21 #[.int .i64 n,.pointer (some ⟨w.heap.size,0,none⟩)] w1 fun e w'=>e=.returned (.tuple #[])/\BS w B C v vs us qs (l ++ be 1 n) w':=by
 have con:=put_any n 1 w1
 rw [clamp1] at con
 have HK:=hid h
 have HB:=hid hB
 have h1:=hid (show l.length+(be 1 n).length<=140737488355328 by rw [be_len];exact hlen)
 generalize be 1 n=L at con h1 ⊢
 clear h hlen hB
 go_enter Tryz.func21,Tryz.ntmps21
 go_wp2_with fail
 refine con.mono ?_
 rintro e w2 ⟨rfl,b2⟩
 have con2:=bs_bytes L (HK.out.below HB.out b2) HB.out h1.out
 clear con b2
 go_wp2_with fail
 refine con2.mono ?_
 rintro e w3 ⟨rfl,k3⟩
 have K3:=hid k3
 clear con2 k3
 go_wp2_with fail
 go_end0
 exact ⟨rfl,K3.out⟩
end
theorem TabsSmall.of {C:List Tab} (h:CatSm C):TabsSmall C:=⟨by have:=h.len;omega,fun t ht=>by
 obtain ⟨_,h2,h3,_,h5⟩:=h.tab t ht
 exact ⟨by omega,by omega,fun x hx=>by have:=(h5 x hx).2;omega⟩⟩
theorem flatB_len {α:Type} {f:α->List UInt8} {m:Nat}:∀ (L:List α),(∀ x ∈ L,(f x).length<=m)->(L.flatMap f).length<=m * L.length
 | [],_=>Nat.zero_le _
 | x :: L,h=>by
  have h1:=flatB_len L fun y hy=>h y (List.mem_cons_of_mem _ hy)
  have h2:=h x List.mem_cons_self
  rw [List.flatMap_cons,List.length_append,List.length_cons,Nat.mul_succ]
  omega
theorem colB_len {x:ByteArray × Int} (h:x.1.size<=12):(colB x).length<=15:=by
 unfold colB
 rw [List.length_append,text_len h,be_len]
 omega
theorem ixB_len {x:Ix} (h:x.name.size<=12/\x.cols.length<=6):(ixB x).length<=100:=by
 have h1:=flatB_len (f:=be 1) (m:=1) x.cols fun y _=>by rw [be_len];exact jR _
 unfold ixB
 simp only [List.length_append,text_len h.1,be_len]
 omega
theorem tabB_len {t:Tab} (h:t.name.size<=12/\t.cols.length<=6/\t.idx.length<=4/\(∀ c ∈ t.cols,c.1.size<=12)/\∀ x ∈ t.idx,x.name.size<=12/\x.cols.length<=6):(tabB t).length<=1000:=by
 obtain ⟨h1,h2,h3,h4,h5⟩:=h
 have k1:=flatB_len (f:=colB) t.cols fun c hc=>colB_len (h4 c hc)
 have k2:=flatB_len (f:=ixB) t.idx fun x hx=>ixB_len (h5 x hx)
 unfold tabB
 simp only [List.length_append,text_len h1,be_len]
 omega
theorem take_flat {α:Type} {f:α->List UInt8} {L:List α} {k:Nat} (hk:k<L.length):(L.take (k+1)).flatMap f=(L.take k).flatMap f ++ f L[k]:=by
 rw [List.take_succ_eq_append_getElem hk,List.flatMap_append]
 simp
theorem take_len {α:Type} {f:α->List UInt8} {m:Nat} {L:List α} (k:Nat) (h:∀ x ∈ L,(f x).length<=m):((L.take k).flatMap f).length<=m * L.length :=
 Nat.le_trans (flatB_len _ fun x hx=>h x (List.mem_of_mem_take hx)) (Nat.mul_le_mul_left _ (by rw [List.length_take];omega))
theorem bytes_any {X:Nat->Prop} {B0 b:Nat} {C:List Tab} {w:World} (hC:CatAt B0 X b C w) (hs:CatSm C) :
 Calls Tryz.prog 11 #[.pointer (some ⟨b,0,none⟩)] w fun e w'=>e=.returned (.string ⟨(catB C).toArray⟩)/\Below w.heap.size w w':=by
 obtain ⟨a,c,hcb,hsl⟩:=hC.sl (TabsSmall.of hs)
 obtain ⟨W1,hW1⟩:∃ W,w.alloc (.cells #[.pointer none,.slice none 0 0] 80)=W:=⟨_,rfl⟩
 have b1:Below w.heap.size w W1:=by rw [<- hW1];exact (b0R).alloc (jR _) _
 have con:=catall_any ((b1.block _ (jB hcb)).trans hcb) (hsl.below b1) (TabsSmall.of hs)
 have I1:=hid (show Lib.IsBuilderF 80 5 w.heap.size w.heap.size (Lib.byteCells []) W1 from by rw [<- hW1];exact isb_new _ _ w)
 have B1:=hid b1
 have S1:=hid (show w.heap.size<W1.heap.size from by rw [<- hW1];simp)
 have HS:=hid hs
 have hlC:C.length<=8:=hs.len
 clear hC hs hcb hsl b1
 go_enter Tryz.func11,Tryz.ntmps11
 go_wp2_with fail
 refine con.mono ?_
 rintro e V ⟨va,vc,rfl,bV,hT⟩
 clear hW1
 obtain ⟨vs,us,hTR⟩:=hT.tr
 have S:=hid (show BS w W1.heap.size C (.slice va C.length vc) vs us [] [] V from ⟨isb_below I1.out bV,B1.out.trans (bV.mono B1.out.size),hTR,fun x hx=>by cases hx⟩)
 have HB:=hid (show w.heap.size<W1.heap.size from S1.out)
 have HV:=hid (jL S1.out bV.size)
 obtain ⟨B,hB⟩:∃ B,B=W1.heap.size:=⟨_,rfl⟩
 rw [<- hB] at S HB
 clear con bV hT hTR I1 B1 S1 hB
 have con:=bs_one (C.length:Int) S.out HB.out (by simp)
 go_wp2_with fail
 refine con.mono ?_
 rintro e w2 ⟨rfl,s0⟩
 have S2:=hid s0
 clear con s0 S
 rw [List.nil_append] at S2
 go_wp2_with fail
 go_loopw [23] (fun ii wr=>∃ k:Nat,k<=C.length/\ii=.int .i64 k/\Hid (BS w B C (.slice va C.length vc) vs us [] (be 1 C.length ++ (C.take k).flatMap tabB) wr)) (fun ii _=>C.length - (intOf ii).toNat)
 case atStart=>exact ⟨0,Nat.zero_le _,rfl,by rw [List.take_zero,List.flatMap_nil,List.append_nil];exact S2.out⟩
 case round =>
  obtain ⟨k,hk,rfl,HK⟩:=hrel
  by_cases hlt:k<C.length
  · obtain ⟨L,hL⟩:∃ L,L=be 1 C.length ++ (C.take k).flatMap tabB:=⟨_,rfl⟩
    have hkv:k<vs.length:=by rw [HK.out.t.len];exact hlt
    have hsm:=HS.out.tab _ (List.getElem_mem hlt)
    have HSM:=hid hsm
    have hLl:L.length<=8001:=by
     have h1:=take_len (f:=tabB) (m:=1000) k fun t ht=>tabB_len (HS.out.tab t ht)
     have h2:=HS.out.len
     rw [hL,List.length_append,be_len]
     omega
    have HLL:=hid hLl
    rw [<- hL] at HK
    have HL:=hid hL
    obtain ⟨g,cg,hv,hgl,hcell⟩:=row_at (enc:=tabCells) (sz:=4) (fun _=>rfl) HK.out.t.own (zip_flat HK.out.t.len) k (by rw [zip_flat HK.out.t.len];exact hlt)
    have hgB:=(HK.out.t.own.lt g (by rw [hv];rfl)).1
    simp only [Value.slice.injEq] at hv
    obtain ⟨rfl,-,-⟩:=hv
    rw [List.getElem_zip] at hcell
    obtain ⟨ac,cc,e1,_⟩:=owns_shape' (HK.out.t.col k hlt hkv)
    obtain ⟨ai,ci,e2,_⟩:=owns_shape' (HK.out.t.ix k hlt hkv)
    have t0:=hcell 0 (by decide)
    have t1:=hcell 1 (by decide)
    have t2:=hcell 2 (by decide)
    have t3:=hcell 3 (by decide)
    simp only [tabCells,e1,e2,List.getElem?_cons_zero,List.getElem?_cons_succ,Nat.add_zero] at t0 t1 t2 t3
    have HWR:=hid (show w.heap.size<wr.heap.size from by have:=HB.out;omega)
    have E1:=hid e1
    have E2:=hid e2
    obtain ⟨T,hT⟩:∃ T,T=C[k]:=⟨_,rfl⟩
    simp only [<- hT] at t0 t1 t2 t3 E1 E2 HSM
    have HT:=hid hT
    have hlc:T.cols.length<=6:=HSM.out.2.1
    have hli:T.idx.length<=4:=HSM.out.2.2.1
    clear hcell hL hLl hsm e1 e2 hgl hgB hT
    go_upto_region 8 with (fail)
    generalize hW:World.alloc _ _=W
    obtain ⟨qb,hqb⟩:∃ q,q=wr.heap.size:=⟨_,rfl⟩
    obtain ⟨Q,hQ⟩:∃ Q:Nat × Array Value × TypeId,Q=(qb,#[.int .i64 T.id,.string T.name,.slice ac T.cols.length cc,.slice ai T.idx.length ci],90):=⟨_,rfl⟩
    have S3:=hid (show BS w B C (.slice (some ⟨g,0,none⟩) C.length vc) vs us [Q] L W from by rw [<- hW,hQ,hqb];exact HK.out.alloc HB.out HWR.out (by decide))
    rw [<- hqb]
    have HQ:=hid hQ
    clear hQ hqb
    clear hW t0 t1 t2 t3 HK
    have hq:=(S3.out.q Q List.mem_cons_self).1
    rw [HQ.out] at hq
    have q1:=jC hq 1
    simp only [gT,gZ,gS] at q1
    clear hq
    have con:=bs_text T.name HSM.out.1 S3.out HB.out
    go_wp2_with fail
    refine con.mono ?_
    rintro e w4 ⟨rfl,s0⟩
    have S4:=hid s0
    clear con s0 S3 q1
    have con:=bs_bytes (textOf T.name) S4.out HB.out (by have:=HLL.out;have:=HSM.out.1;simp only [List.length_append,be_len,text_len HSM.out.1];omega)
    go_wp2_with fail
    refine con.mono ?_
    rintro e w5 ⟨rfl,s0⟩
    have S5:=hid s0
    clear con s0 S4
    have hq:=(S5.out.q Q List.mem_cons_self).1
    rw [HQ.out] at hq
    have q2:=jC hq 2
    simp only [gT,gZ,gS] at q2
    clear hq
    have con:=bs_one (T.cols.length:Int) S5.out HB.out (by have:=HLL.out;have:=HSM.out.1;simp only [List.length_append,be_len,text_len HSM.out.1];omega)
    go_wp2_with fail
    refine con.mono ?_
    rintro e w6 ⟨rfl,s0⟩
    have S6:=hid s0
    clear con s0 S5 q2
    obtain ⟨M,hM⟩:∃ M,M=L ++ textOf T.name ++ be 1 T.cols.length:=⟨_,rfl⟩
    have HML:=hid (show M.length<=8100 from by have:=HLL.out;rw [hM];simp only [List.length_append,be_len,text_len HSM.out.1];have:=HSM.out.1;omega)
    rw [<- hM] at S6
    have HM:=hid hM
    clear hM
    have hq:=(S6.out.q Q List.mem_cons_self).1
    rw [HQ.out] at hq
    have q2:=jC hq 2
    simp only [gT,gZ,gS] at q2
    clear hq
    go_wp2_with fail
    clear q2
    go_loopw [39] (fun jj wq=>∃ j:Nat,j<=T.cols.length/\jj=.int .i64 j/\Hid (BS w B C (.slice (some ⟨g,0,none⟩) C.length vc) vs us [Q] (M ++ (T.cols.take j).flatMap colB) wq)) (fun jj _=>T.cols.length - (intOf jj).toNat)
    case atStart=>exact ⟨0,Nat.zero_le _,rfl,by rw [List.take_zero,List.flatMap_nil,List.append_nil];exact S6.out⟩
    case round =>
     obtain ⟨j,hj,rfl,HJ⟩:=hrel
     by_cases hjl:j<T.cols.length
     · have hc:=HSM.out.2.2.2.1 _ (List.getElem_mem hjl)
       have HC:=hid hc
       obtain ⟨N,hN⟩:∃ N,N=M ++ (T.cols.take j).flatMap colB:=⟨_,rfl⟩
       have HNL:=hid (show N.length<=8200 from by
        have h1:=take_len (f:=colB) (m:=15) j fun t ht=>colB_len (HSM.out.2.2.2.1 t ht)
        have h2:=HSM.out.2.1
        have h3:=HML.out
        rw [hN,List.length_append]
        omega)
       rw [<- hN] at HJ
       have HN:=hid hN
       have hrow:=HJ.out.t.col k hlt hkv
       have e1:=E1.out
       unfold ColOwn at hrow
       rw [e1] at hrow
       simp only [<- HT.out] at hrow
       obtain ⟨g2,c2,hv2,hgl2,hcell⟩:=row_at (enc:=colEnc) (sz:=2) (fun _=>rfl) hrow rfl j hjl
       have hgB:=(hrow.lt g2 (by rw [hv2];rfl)).1
       simp only [Value.slice.injEq] at hv2
       obtain ⟨rfl,-,-⟩:=hv2
       have t0:=hcell 0 (by decide)
       have t1:=hcell 1 (by decide)
       simp only [colEnc,List.getElem?_cons_zero,List.getElem?_cons_succ,Nat.add_zero] at t0 t1
       have HWQ:=hid (show w.heap.size<wr.heap.size from by have:=HB.out;omega)
       obtain ⟨x,hx⟩:∃ x,x=T.cols[j]:=⟨_,rfl⟩
       rw [<- hx] at t0 t1 HC
       have HX:=hid hx
       clear hcell hgl2 hgB hrow e1 hN hc hx
       go_upto_region 13 with (fail)
       generalize hW:World.alloc _ _=W2
       have R3:=hid (show BS w B C (.slice (some ⟨g,0,none⟩) C.length vc) vs us [(wr.heap.size,#[.string x.1,.int .i64 x.2],62),Q] N W2 from by rw [<- hW];exact HJ.out.alloc HB.out HWQ.out (by decide))
       clear hW t0 t1 HJ
       have hq:=(R3.out.q _ (List.mem_cons_self)).1
       have q0:=jC hq 0
       simp only [gT,gZ,gS] at q0
       clear hq
       have con:=bs_text x.1 HC.out R3.out HB.out
       go_wp2_with fail
       refine con.mono ?_
       rintro e w7 ⟨rfl,s0⟩
       have R4:=hid s0
       clear con s0 R3 q0
       have con:=bs_bytes (textOf x.1) R4.out HB.out (by have:=HNL.out;have:=HC.out;simp only [List.length_append,be_len,text_len HC.out];omega)
       go_wp2_with fail
       refine con.mono ?_
       rintro e w8 ⟨rfl,s0⟩
       have R5:=hid s0
       clear con s0 R4
       have hq:=(R5.out.q _ (List.mem_cons_self)).1
       have q1:=jC hq 1
       simp only [gT,gZ,gS] at q1
       clear hq
       have con:=bs_one x.2 R5.out HB.out (by have:=HNL.out;have:=HC.out;simp only [List.length_append,be_len,text_len HC.out];omega)
       go_wp2_with fail
       refine con.mono ?_
       rintro e w9 ⟨rfl,s0⟩
       have R6:=hid s0
       clear con s0 R5 q1
       go_wp2_with fail
       go_roundw
       case rel =>
        refine ⟨j+1,by omega,by go_num,?_⟩
        rw [take_flat hjl,<- List.append_assoc,<- HN.out,<- HX.out]
        have:=R6.out.less
        rw [List.append_assoc] at this
        exact this
       case measure=>simp [intOf];omega
     · have hjn:j=T.cols.length:=by omega
       subst hjn
       obtain ⟨N,hN⟩:∃ N,N=M ++ T.cols.flatMap colB:=⟨_,rfl⟩
       have HNL:=hid (show N.length<=8200 from by
        have h1:=flatB_len (f:=colB) (m:=15) T.cols fun t ht=>colB_len (HSM.out.2.2.2.1 t ht)
        have h2:=HSM.out.2.1
        have h3:=HML.out
        rw [hN,List.length_append]
        omega)
       rw [List.take_length,<- hN] at HJ
       have HN:=hid hN
       clear hN S6
       have hq:=(HJ.out.q Q List.mem_cons_self).1
       rw [HQ.out] at hq
       have q3:=jC hq 3
       simp only [gT,gZ,gS] at q3
       clear hq
       have con:=bs_one (T.idx.length:Int) HJ.out HB.out (by have:=HNL.out;omega)
       go_wp2_with fail
       refine con.mono ?_
       rintro e w7 ⟨rfl,s0⟩
       have R7:=hid s0
       clear con s0 HJ q3
       obtain ⟨K,hK⟩:∃ K,K=N ++ be 1 T.idx.length:=⟨_,rfl⟩
       have HKL:=hid (show K.length<=8201 from by have:=HNL.out;rw [hK];simp only [List.length_append,be_len];omega)
       rw [<- hK] at R7
       have HK:=hid hK
       clear hK
       have hq:=(R7.out.q Q List.mem_cons_self).1
       rw [HQ.out] at hq
       have q3:=jC hq 3
       simp only [gT,gZ,gS] at q3
       clear hq
       go_wp2_with fail
       clear q3
       go_loopw [60] (fun jj wq=>∃ j:Nat,j<=T.idx.length/\jj=.int .i64 j/\Hid (BS w B C (.slice (some ⟨g,0,none⟩) C.length vc) vs us [Q] (K ++ (T.idx.take j).flatMap ixB) wq)) (fun jj _=>T.idx.length - (intOf jj).toNat)
       case atStart=>exact ⟨0,Nat.zero_le _,rfl,by rw [List.take_zero,List.flatMap_nil,List.append_nil];exact R7.out⟩
       case round =>
        obtain ⟨j,hj,rfl,HJ⟩:=hrel
        by_cases hjl:j<T.idx.length
        · have hc:=HSM.out.2.2.2.2 _ (List.getElem_mem hjl)
          have HC:=hid hc
          obtain ⟨P,hP⟩:∃ P,P=K ++ (T.idx.take j).flatMap ixB:=⟨_,rfl⟩
          have HPL:=hid (show P.length<=8700 from by
           have h1:=take_len (f:=ixB) (m:=100) j fun t ht=>ixB_len (HSM.out.2.2.2.2 t ht)
           have h3:=HKL.out
           rw [hP,List.length_append]
           omega)
          rw [<- hP] at HJ
          have HP:=hid hP
          have hju:j<(us k).length:=by rw [HJ.out.t.ul k hlt,<- HT.out];exact hjl
          have hrow:=HJ.out.t.ix k hlt hkv
          have e2:=E2.out
          rw [e2] at hrow
          have hz:(T.idx.zip (us k)).length=T.idx.length:=zip_flat (by rw [HJ.out.t.ul k hlt,<- HT.out])
          simp only [<- HT.out] at hrow
          obtain ⟨g2,c2,hv2,hgl2,hcell⟩:=row_at (enc:=ixCells) (sz:=3) (fun _=>rfl) hrow hz j (by rw [hz];exact hjl)
          have hgB:=(hrow.lt g2 (by rw [hv2];rfl)).1
          simp only [Value.slice.injEq] at hv2
          obtain ⟨rfl,-,-⟩:=hv2
          rw [List.getElem_zip] at hcell
          have hint:=HJ.out.t.int k hlt j (by rw [<- HT.out];exact hjl) hju
          simp only [<- HT.out] at hint
          obtain ⟨ia,ic,e3,_⟩:=owns_shape' hint
          have t0:=hcell 0 (by decide)
          have t1:=hcell 1 (by decide)
          have t2:=hcell 2 (by decide)
          simp only [ixCells,e3,List.getElem?_cons_zero,List.getElem?_cons_succ,Nat.add_zero] at t0 t1 t2
          have E3:=hid e3
          have HWQ:=hid (show w.heap.size<wr.heap.size from by have:=HB.out;omega)
          obtain ⟨x,hx⟩:∃ x,x=T.idx[j]:=⟨_,rfl⟩
          rw [<- hx] at t0 t1 t2 HC E3
          have HX:=hid hx
          have hlx:x.cols.length<=6:=HC.out.2
          clear hcell hgl2 hgB hrow e2 hP hc hx hz hint e3
          go_upto_region 20 with (fail)
          generalize hW:World.alloc _ _=W2
          obtain ⟨qc,hqc⟩:∃ q,q=wr.heap.size:=⟨_,rfl⟩
          obtain ⟨R,hR⟩:∃ R:Nat × Array Value × TypeId,R=(qc,#[.string x.name,.slice ia x.cols.length ic,.int .i64 x.root],93):=⟨_,rfl⟩
          have R3:=hid (show BS w B C (.slice (some ⟨g,0,none⟩) C.length vc) vs us [R,Q] P W2 from by rw [<- hW,hR,hqc];exact HJ.out.alloc HB.out HWQ.out (by decide))
          rw [<- hqc]
          have HR:=hid hR
          clear hW t0 t1 t2 HJ hR hqc
          have hq:=(R3.out.q R List.mem_cons_self).1
          rw [HR.out] at hq
          have q0:=jC hq 0
          simp only [gT,gZ,gS] at q0
          clear hq
          have con:=bs_text x.name HC.out.1 R3.out HB.out
          go_wp2_with fail
          refine con.mono ?_
          rintro e w8 ⟨rfl,s0⟩
          have R4:=hid s0
          clear con s0 R3 q0
          have con:=bs_bytes (textOf x.name) R4.out HB.out (by have:=HPL.out;have:=HC.out.1;simp only [List.length_append,be_len,text_len HC.out.1];omega)
          go_wp2_with fail
          refine con.mono ?_
          rintro e w9 ⟨rfl,s0⟩
          have R5:=hid s0
          clear con s0 R4
          have hq:=(R5.out.q R List.mem_cons_self).1
          rw [HR.out] at hq
          have q1:=jC hq 1
          simp only [gT,gZ,gS] at q1
          clear hq
          have con:=bs_one (x.cols.length:Int) R5.out HB.out (by have:=HPL.out;have:=HC.out.1;simp only [List.length_append,be_len,text_len HC.out.1];omega)
          go_wp2_with fail
          refine con.mono ?_
          rintro e w10 ⟨rfl,s0⟩
          have R6:=hid s0
          clear con s0 R5 q1
          obtain ⟨Y,hY⟩:∃ Y,Y=P ++ textOf x.name ++ be 1 x.cols.length:=⟨_,rfl⟩
          have HYL:=hid (show Y.length<=8800 from by have:=HPL.out;have:=HC.out.1;rw [hY];simp only [List.length_append,be_len,text_len HC.out.1];omega)
          rw [<- hY] at R6
          have HY:=hid hY
          clear hY
          have hq:=(R6.out.q R List.mem_cons_self).1
          rw [HR.out] at hq
          have q1:=jC hq 1
          simp only [gT,gZ,gS] at q1
          clear hq
          go_wp2_with fail
          clear q1
          go_loopw [76] (fun jj wq=>∃ z:Nat,z<=x.cols.length/\jj=.int .i64 z/\Hid (BS w B C (.slice (some ⟨g,0,none⟩) C.length vc) vs us [R,Q] (Y ++ (x.cols.take z).flatMap (be 1)) wq)) (fun jj _=>x.cols.length - (intOf jj).toNat)
          case atStart=>exact ⟨0,Nat.zero_le _,rfl,by rw [List.take_zero,List.flatMap_nil,List.append_nil];exact R6.out⟩
          case round =>
           obtain ⟨z,hz,rfl,HZ⟩:=hrel
           by_cases hzl:z<x.cols.length
           · have hint:=HZ.out.t.int k hlt j (by rw [<- HT.out];exact hjl) hju
             simp only [<- HT.out] at hint
             have e3:=E3.out
             rw [e3] at hint
             simp only [<- HX.out] at hint
             obtain ⟨g4,c4,hv4,c0⟩:=row_int hint z hzl
             simp only [Value.slice.injEq] at hv4
             obtain ⟨rfl,-,-⟩:=hv4
             obtain ⟨N4,hN4⟩:∃ N,N=Y ++ (x.cols.take z).flatMap (be 1):=⟨_,rfl⟩
             have HL4:=hid (show N4.length<=8900 from by
              have h1:=take_len (f:=be 1) (m:=1) (L:=x.cols) z fun t ht=>by rw [be_len];exact jR _
              have h3:=HYL.out
              rw [hN4,List.length_append]
              omega)
             rw [<- hN4] at HZ
             have HN4:=hid hN4
             obtain ⟨y,hy⟩:∃ y,y=x.cols[z]:=⟨_,rfl⟩
             rw [<- hy] at c0
             have HYY:=hid hy
             clear hint e3 hN4 hy
             have con:=bs_one y HZ.out HB.out (by have:=HL4.out;omega)
             go_wp2_with fail
             refine con.mono ?_
             rintro e w11 ⟨rfl,s0⟩
             have Z2:=hid s0
             clear con s0 HZ c0
             go_wp2_with fail
             go_roundw
             case rel =>
              refine ⟨z+1,by omega,by go_num,?_⟩
              rw [take_flat hzl,<- List.append_assoc,<- HN4.out,<- HYY.out]
              exact Z2.out
             case measure=>simp [intOf];omega
           · have hzn:z=x.cols.length:=by omega
             subst hzn
             rw [List.take_length] at HZ
             have HZL:=hid (show (Y ++ x.cols.flatMap (be 1)).length<=8900 from by
              have h1:=flatB_len (f:=be 1) (m:=1) x.cols fun t ht=>by rw [be_len];exact jR _
              have h3:=HYL.out
              rw [List.length_append]
              omega)
             clear R6
             have hq:=(HZ.out.q R List.mem_cons_self).1
             rw [HR.out] at hq
             have q2:=jC hq 2
             simp only [gT,gZ,gS] at q2
             clear hq
             have con:=bs_put x.root HZ.out HB.out
             go_wp2_with fail
             refine con.mono ?_
             rintro e w11 ⟨rfl,s0⟩
             have Z2:=hid s0
             clear con s0 HZ q2
             have con:=bs_bytes (be 2 x.root) Z2.out HB.out (by have:=HZL.out;rw [be_len];omega)
             go_wp2_with fail
             refine con.mono ?_
             rintro e w12 ⟨rfl,s0⟩
             have Z3:=hid s0
             clear con s0 Z2
             go_wp2_with fail
             go_roundw
             case rel =>
              refine ⟨j+1,by omega,by go_num,?_⟩
              rw [take_flat hjl,<- List.append_assoc,<- HP.out,<- HX.out]
              have:=Z3.out.less
              rw [HY.out] at this
              unfold ixB
              simp only [List.append_assoc] at this ⊢
              exact this
             case measure=>simp [intOf];omega
        · have hjn:j=T.idx.length:=by omega
          subst hjn
          rw [List.take_length] at HJ
          clear R7
          go_wp2_with fail
          go_roundw
          case rel =>
           refine ⟨k+1,by omega,by go_num,?_⟩
           rw [take_flat hlt,<- List.append_assoc,<- HL.out,<- HT.out]
           have:=HJ.out.less
           rw [HK.out,HN.out,HM.out] at this
           unfold tabB
           simp only [List.append_assoc] at this ⊢
           exact this
          case measure=>simp [intOf];omega
  · have hkn:k=C.length:=by omega
    subst hkn
    have S9:=hid (show BS w B C (.slice va C.length vc) vs us [] (catB C) wr from by have:=HK.out;rwa [List.take_length] at this)
    clear HK
    have con:=Tryz.Builder_String_any_k w.heap.size w.heap.size (catB C) wr S9.out.k S9.out.b.size
    go_wp2_with fail
    refine con.mono ?_
    rintro e w9 ⟨rfl,_,b9,_⟩
    have B9:=hid (S9.out.b.trans b9)
    clear con b9
    go_wp2_with fail
    go_ret
    exact ⟨rfl,B9.out⟩
end
end Go.Proofs.YtjcpccadmcglgaaGreatDoor
