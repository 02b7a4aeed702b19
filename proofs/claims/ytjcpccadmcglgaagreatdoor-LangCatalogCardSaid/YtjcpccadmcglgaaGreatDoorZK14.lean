/- slices.Clone; rows of one's own. -/
import Derived.Test.YtjcpccadmcglgaaGreatDoorZK13
import Derived.Test.YtjcpccadmcglgaaGreatDoorZK5
import Derived.Test.YtjcpccadmcglgaaGreatDoorProg
import Derived.Lib.LazyBuf
set_option linter.unusedVariables false
set_option linter.unusedSimpArgs false
set_option maxRecDepth 100000
set_option maxHeartbeats 64000000
namespace Go.Proofs.YtjcpccadmcglgaaGreatDoor
open Go.Lib (hid)
section
open Go.RowKit
theorem info_parts {P:Program} {e:TypeId} {z:Value} {size bytes:Nat} (h:(P.info? e).map (fun i=>(i.zero,i.size,i.bytes))=some (some z,size,bytes)):∃ i,P.info? e=some i/\i.zero=some z/\i.size=size/\i.bytes=bytes:=by
 cases hi:P.info? e with
 | none=>rw [hi] at h;cases h
 | some i =>
  rw [hi] at h
  simp only [Option.map_some,Option.some.injEq,Prod.mk.injEq] at h
  exact ⟨i,rfl,h.1,h.2.1,h.2.2⟩
def RawAt (w:World) (ax:Option Addr) (xs:List Value):Prop:=∀ ad,ax=some ad->∀ j u,xs[j]? = some u->w.cell? (ad.add j)=some u
theorem info_ints:(Tryz.prog.info? 3).map (fun i=>(i.zero,i.size,i.bytes))=some (some (.int .i64 0),1,8):=by kernel_rfl
theorem clone_ints {ax:Option Addr} {n c:Nat} {xs:List Value} {w:World} (hnil:ax=none->n=0) (hcell:RawAt w ax xs) (hl:xs.length=n * 1) (h1:∀ u ∈ xs,u.oneCell'=true) (hn:n * 8<=140737488355328) :
 Calls Tryz.prog 111 #[.slice ax n c] w fun e w'=>∃ v,e=.returned v/\w'.ownsRow w.heap.size 3 1 v n xs/\Below w.heap.size w w':=by
 obtain ⟨i0,hi,hz0,hz1,hz2⟩:=info_parts info_ints
 cases ax with
 | none =>
  obtain rfl:=hnil rfl
  obtain rfl:xs=[]:=List.eq_nil_of_length_eq_zero (by simpa using hl)
  have hq:=fun w=>run_eql_slice_nil (P:=Tryz.prog) w 37 3 none 0 c Tryz.underlying37
  simp only [Option.isNone_none] at hq
  go_enter Tryz.func111,Tryz.ntmps111
  go_wp2_with fail
  go_ret
  exact ⟨_,rfl,World.ownsRow_nil _ _ _ _,Below.refl _ _⟩
 | some ad =>
  have hq:=fun w=>run_eql_slice_nil (P:=Tryz.prog) w 37 3 (some ad) n c Tryz.underlying37
  simp only [Option.isNone_some] at hq
  have HC:=hid hcell
  have HL:=hid hl
  clear hcell hnil hl
  go_enter Tryz.func111,Tryz.ntmps111
  go_wp2_with (at_builtin;go_loud (refine wpList_append_own _ rfl _ _ 37 rfl w.heap.size 3 i0 _ 1 8 Tryz.underlying37 hi hz0 hz1 hz2 rfl (by decide) (.slice (some ⟨w.heap.size,0,none⟩) 0 0) 0 [] rfl ⟨rfl,Or.inr ⟨w.heap.size,0,#[],rfl,jR _,heap_alloc_new _ _,jR _,by decide,rfl,rfl⟩⟩ ad n c xs rfl HL.out (fun j u hj=>cell_later ((b0R).alloc (jR _) _) (HC.out ad rfl j u hj)) h1 (by unfold maxLen;omega) (by omega) (by simp) ?_;intro v1 w3 o1 g1 x1;clear x1;have N3:=hid (show _/\_ from ⟨o1,((Below.refl w.heap.size w).alloc (jR _) _).grown g1 (by simp) (fun k hk=>by simp [Value.ownBlock] at hk;omega)⟩);clear o1 g1))
  go_ret
  exact ⟨_,rfl,by have:=N3.out.1;simpa using this,N3.out.2⟩
theorem info_cols:(Tryz.prog.info? 62).map (fun i=>(i.zero,i.size,i.bytes))=some (some (.agg #[.string ⟨#[]⟩,.int .i64 0]),2,24):=by kernel_rfl
theorem clone_cols {ax:Option Addr} {n c:Nat} {xs:List Value} {w:World} (hnil:ax=none->n=0) (hcell:RawAt w ax xs) (hl:xs.length=n * 2) (h1:∀ u ∈ xs,u.oneCell'=true) (hn:n * 24<=140737488355328) :
 Calls Tryz.prog 101 #[.slice ax n c] w fun e w'=>∃ v,e=.returned v/\w'.ownsRow w.heap.size 62 2 v n xs/\Below w.heap.size w w':=by
 obtain ⟨i0,hi,hz0,hz1,hz2⟩:=info_parts info_cols
 cases ax with
 | none =>
  obtain rfl:=hnil rfl
  obtain rfl:xs=[]:=List.eq_nil_of_length_eq_zero (by simpa using hl)
  have hq:=fun w=>run_eql_slice_nil (P:=Tryz.prog) w 26 62 none 0 c Tryz.underlying26
  simp only [Option.isNone_none] at hq
  go_enter Tryz.func101,Tryz.ntmps101
  go_wp2_with fail
  go_ret
  exact ⟨_,rfl,World.ownsRow_nil _ _ _ _,Below.refl _ _⟩
 | some ad =>
  have hq:=fun w=>run_eql_slice_nil (P:=Tryz.prog) w 26 62 (some ad) n c Tryz.underlying26
  simp only [Option.isNone_some] at hq
  have HC:=hid hcell
  have HL:=hid hl
  clear hcell hnil hl
  go_enter Tryz.func101,Tryz.ntmps101
  go_wp2_with (at_builtin;go_loud (refine wpList_append_own _ rfl _ _ 26 rfl w.heap.size 62 i0 _ 2 24 Tryz.underlying26 hi hz0 hz1 hz2 rfl (by decide) (.slice (some ⟨w.heap.size,0,none⟩) 0 0) 0 [] rfl ⟨rfl,Or.inr ⟨w.heap.size,0,#[],rfl,jR _,heap_alloc_new _ _,jR _,by decide,rfl,rfl⟩⟩ ad n c xs rfl HL.out (fun j u hj=>cell_later ((b0R).alloc (jR _) _) (HC.out ad rfl j u hj)) h1 (by unfold maxLen;omega) (by omega) (by simp) ?_;intro v1 w3 o1 g1 x1;clear x1;have N3:=hid (show _/\_ from ⟨o1,((Below.refl w.heap.size w).alloc (jR _) _).grown g1 (by simp) (fun k hk=>by simp [Value.ownBlock] at hk;omega)⟩);clear o1 g1))
  go_ret
  exact ⟨_,rfl,by have:=N3.out.1;simpa using this,N3.out.2⟩
theorem row_raw {α:Type} {enc:α->List Value} {sz:Nat} {hl:∀ x,(enc x).length=sz} {p:Nat->Prop} {w:World} {a:Option Addr} {L:List α} (h:RowAt (flatR sz enc hl) p w a L):RawAt w a (L.flatMap enc):=by
 rintro ad rfl
 exact h.news
theorem row_nil {α:Type} {R:Rep α} {p:Nat->Prop} {w:World} {a:Option Addr} {L:List α} (h:RowAt R p w a L):a=none->L.length=0:=by
 rintro rfl
 rcases h with h|⟨b,off,ha,_⟩
 · rw [h];rfl
 · cases ha
structure OneAt (B:Nat) (W0:World) (e:TypeId) (sz:Nat) (v:Value) (n:Nat) (xs:List Value) (w:World):Prop where
 m:w.ownsRow B e sz v n xs
 b:Below B W0 w
theorem OneAt.below {B:Nat} {W0:World} {e:TypeId} {sz:Nat} {v:Value} {n:Nat} {xs:List Value} {w w':World} (h:OneAt B W0 e sz v n xs w) (hb:Below w.heap.size w w') (hB:B<=w.heap.size):OneAt B W0 e sz v n xs w' :=
 ⟨owns_below h.m hb,h.b.trans (hb.mono hB)⟩
theorem OneAt.push {B:Nat} {W0:World} {e:TypeId} {sz:Nat} {v v':Value} {n:Nat} {xs ys:List Value} {w w1:World} (h:OneAt B W0 e sz v n xs w) (hB:B<=w.heap.size) (ho:w1.ownsRow B e sz v' (n+1) ys) (hg:w.grownBy w1 v.ownBlock):OneAt B W0 e sz v' (n+1) ys w1 :=
 ⟨ho,h.b.grown hg hB (fun k hk=>(h.m.lt k hk).1)⟩
def Keeps (B:Nat) (T:TypeId) (I:World->Prop):Prop:=∀ w1 w2 r,I w1->(∀ b,r=some b->B<=b/\∀ cs T' fz,w1.heap[b]? = some (.cells cs T' fz)->T'=T)->w1.grownBy w2 r->I w2
theorem own_tag {w:World} {B:Nat} {e:TypeId} {sz:Nat} {v:Value} {n:Nat} {xs:List Value} (h:w.ownsRow B e sz v n xs):∀ b,v.ownBlock=some b->B<=b/\∀ cs T' fz,w.heap[b]? = some (.cells cs T' fz)->T'=e:=by
 intro b hb
 rcases h.2 with ⟨rfl,_⟩|⟨g,cap,cur,rfl,hgB,hg,_⟩
 · simp [Value.ownBlock] at hb
 · obtain rfl:g=b:=by simpa [Value.ownBlock] using hb
   refine ⟨hgB,fun cs T' fz h'=>?_⟩
   rw [hg] at h'
   simp at h'
   exact h'.2.1.symm
theorem grown_below' {w w':World} (h:Below w.heap.size w w'):w.grownBy w' none:=⟨h.os,h.tape,h.output,h.size,fun k hk _=>h.block k hk⟩
theorem Keeps.below {B:Nat} {T:TypeId} {I:World->Prop} (h:Keeps B T I) {w w':World} (hi:I w) (hb:Below w.heap.size w w'):I w':=h _ _ none hi (fun _ e=>by cases e) (grown_below' hb)
theorem info_ais:(Tryz.prog.info? 9).map (fun i=>(i.zero,i.size,i.bytes))=some (some (.string ⟨#[]⟩),1,16):=by kernel_rfl
theorem info_asi:(Tryz.prog.info? 3).map (fun i=>(i.zero,i.size,i.bytes))=some (some (.int .i64 0),1,8):=by kernel_rfl
end
section
open Go.RowKit
theorem info_eix:(Tryz.prog.info? 93).map (fun i=>(i.zero,i.size,i.bytes))=some (some (.agg #[.string ⟨#[]⟩,.slice none 0 0,.int .i64 0]),3,48):=by kernel_rfl
theorem each_eix {ax:Option Addr} {n c g:Nat} {cb:Array Value} (xs0:Nat->ByteArray) (xa1:Nat->Option Addr) (xn1:Nat->Nat) (xc1:Nat->Nat) (xi2:Nat->Int) {w:World} (eg:∀ args w,(callFunc g args).run Tryz.prog w=.ok (.enter g args) w) (hn:n * 48<=140737488355328)
 (ha:0<n->∃ b off,ax=some ⟨b,off,none⟩/\b<w.heap.size/\∀ t,t<n->w.cell? ⟨b,off+t * 3,none⟩=some (.string (xs0 t))/\w.cell? ⟨b,off+t * 3+1,none⟩=some (.slice (xa1 t) (xn1 t) (xc1 t))/\w.cell? ⟨b,off+t * 3+2,none⟩=some (.int .i64 (xi2 t)))
 (I:Nat->List Value->World->Prop) (h0:I 0 [] w) (hkeep:∀ k outs,Keeps w.heap.size 93 (I k outs))
 (hstep:∀ t,t<n->∀ outs w1,Below w.heap.size w w1->I t outs w1->Calls Tryz.prog g (#[.agg #[.string (xs0 t),.slice (xa1 t) (xn1 t) (xc1 t),.int .i64 (xi2 t)]] ++ cb) w1 fun e w2=>∃ (us0:ByteArray) (ua1:Option Addr) (un1:Nat) (uc1:Nat) (ui2:Int),e=.returned (.agg #[.string us0,.slice ua1 un1 uc1,.int .i64 ui2])/\Below w1.heap.size w1 w2/\I (t+1) (outs ++ [.string us0,.slice ua1 un1 uc1,.int .i64 ui2]) w2) :
 Calls Tryz.prog 109 #[.slice ax n c,.func (.func g) #[] cb] w fun e w'=>∃ v outs,e=.returned v/\w'.ownsRow w.heap.size 93 3 v n outs/\Below w.heap.size w w'/\I n outs w':=by
 obtain ⟨i0,hi,hz0,hz1,hz2⟩:=info_parts info_eix
 have HA:=hid ha
 have H0:=hid h0
 have HK:=hid hkeep
 have HS:=hid hstep
 clear ha h0 hkeep hstep
 go_enter Tryz.func109,Tryz.ntmps109
 go_wp2_with fail
 go_loopw [5,10] (fun x ii wr=>∃ (k:Nat) (v:Value) (outs:List Value),k<=n/\ii=.int .i64 k/\v=x/\Hid (OneAt w.heap.size w 93 3 v k outs wr/\I k outs wr)) (fun _ ii _=>n - (intOf ii).toNat)
 case atStart=>exact ⟨0,_,[],Nat.zero_le _,rfl,rfl,⟨World.ownsRow_nil _ _ _ _,Below.refl _ _⟩,H0.out⟩
 case round =>
  obtain ⟨k,v,outs,hk,rfl,rfl,HO⟩:=hrel
  by_cases hlt:k<n
  · obtain ⟨b,off,rfl,hbl,hcs⟩:=HA.out (by omega)
    obtain ⟨h0,h1,h2⟩:=hcs k hlt
    have c0:=(HO.out.1.b.cell (p:=⟨b,off+k * 3,none⟩) hbl).trans h0
    have c1:=(HO.out.1.b.cell (p:=⟨b,off+k * 3+1,none⟩) hbl).trans h1
    have c2:=(HO.out.1.b.cell (p:=⟨b,off+k * 3+2,none⟩) hbl).trans h2
    obtain ⟨W1,hW1⟩:∃ W1,wr.alloc (.cells #[.string (xs0 k),.slice (xa1 k) (xn1 k) (xc1 k),.int .i64 (xi2 k)] 93)=W1:=⟨_,rfl⟩
    have hb1:Below wr.heap.size wr W1:=by rw [<- hW1];exact (b0R).alloc (jR _) _
    have O1:=hid (HO.out.1.below hb1 HO.out.1.b.size)
    have I1:=hid ((HK.out _ _).below HO.out.2 hb1)
    have hq:W1.heap[wr.heap.size]? = some (.cells #[.string (xs0 k),.slice (xa1 k) (xn1 k) (xc1 k),.int .i64 (xi2 k)] 93 (0,0)):=by rw [<- hW1];exact heap_alloc_new _ _
    have con:=HS.out k hlt outs W1 O1.out.b I1.out
    have q0:=jC hq 0
    have q1:=jC hq 1
    have q2:=jC hq 2
    simp only [gT,gZ,gS] at q0 q1 q2
    clear hcs h0 h1 h2 hb1 hq
    obtain ⟨xs0k,exs0⟩:∃ z,z=xs0 k:=⟨_,rfl⟩
    obtain ⟨xa1k,exa1⟩:∃ z,z=xa1 k:=⟨_,rfl⟩
    obtain ⟨xn1k,exn1⟩:∃ z,z=xn1 k:=⟨_,rfl⟩
    obtain ⟨xc1k,exc1⟩:∃ z,z=xc1 k:=⟨_,rfl⟩
    obtain ⟨xi2k,exi2⟩:∃ z,z=xi2 k:=⟨_,rfl⟩
    rw [<- exs0,<- exa1,<- exn1,<- exc1,<- exi2] at con hW1
    simp only [<- exs0,<- exa1,<- exn1,<- exc1,<- exi2] at c0 c1 c2 q0 q1 q2
    clear exs0 exa1 exn1 exc1 exi2
    go_upto_region 5 with (fail)
    clear hW1 c0 c1 c2
    go_wp2_with fail
    refine con.mono ?_
    rintro e w2 ⟨us0,ua1,un1,uc1,ui2,rfl,b2,i2⟩
    have O2:=hid (O1.out.below b2 O1.out.b.size)
    have I2:=hid i2
    have hs2:=O2.out.b.size
    clear con b2 i2 q0 q1 q2
    go_wp2_with (at_builtin;go_loud (refine wpList_append_own_at _ rfl _ _ 88 rfl w.heap.size 93 i0 _ 3 48 Tryz.underlying88 hi hz0 hz1 hz2 rfl (by decide) v k _ rfl (O2.out.m.alloc _) ⟨w2.heap.size,0,none⟩ 1 1 [.string us0,.slice ua1 un1 uc1,.int .i64 ui2] rfl rfl (fun j u hj=>by rw [addr_add,jC (heap_alloc_new _ _)];simpa using hj) (fun u hu=>by simp only [List.mem_cons,List.not_mem_nil,or_false] at hu;rcases hu with rfl|rfl|rfl <;> rfl) (by unfold maxLen;omega) (by omega) (by simp;omega) ?_;intro v' w3 o1 g1 hx1 at1;clear hx1 at1;have N3:=hid (show _/\_ from ⟨(O2.out.below ((b0R).alloc (jR _) _) hs2).push (by simp;omega) o1 g1,HK.out _ _ _ _ _ ((HK.out _ _).below I2.out ((b0R).alloc (jR _) _)) (own_tag (O2.out.m.alloc _)) g1⟩);clear o1 g1))
    go_roundw
    case rel=>exact ⟨k+1,_,outs ++ [.string us0,.slice ua1 un1 uc1,.int .i64 ui2],by omega,by go_num,rfl,N3⟩
    case measure=>simp [intOf];omega
  · have hkn:k=n:=by omega
    subst hkn
    go_wp2_with fail
    go_ret
    exact ⟨_,outs,rfl,HO.out.1.m,HO.out.1.b,HO.out.2⟩
theorem info_etab:(Tryz.prog.info? 90).map (fun i=>(i.zero,i.size,i.bytes))=some (some (.agg #[.int .i64 0,.string ⟨#[]⟩,.slice none 0 0,.slice none 0 0]),4,72):=by kernel_rfl
theorem each_etab {ax:Option Addr} {n c g:Nat} {cb:Array Value} (xi0:Nat->Int) (xs1:Nat->ByteArray) (xa2:Nat->Option Addr) (xn2:Nat->Nat) (xc2:Nat->Nat) (xa3:Nat->Option Addr) (xn3:Nat->Nat) (xc3:Nat->Nat) {w:World} (eg:∀ args w,(callFunc g args).run Tryz.prog w=.ok (.enter g args) w) (hn:n * 72<=140737488355328)
 (ha:0<n->∃ b off,ax=some ⟨b,off,none⟩/\b<w.heap.size/\∀ t,t<n->w.cell? ⟨b,off+t * 4,none⟩=some (.int .i64 (xi0 t))/\w.cell? ⟨b,off+t * 4+1,none⟩=some (.string (xs1 t))/\w.cell? ⟨b,off+t * 4+2,none⟩=some (.slice (xa2 t) (xn2 t) (xc2 t))/\w.cell? ⟨b,off+t * 4+3,none⟩=some (.slice (xa3 t) (xn3 t) (xc3 t)))
 (I:Nat->List Value->World->Prop) (h0:I 0 [] w) (hkeep:∀ k outs,Keeps w.heap.size 90 (I k outs))
 (hstep:∀ t,t<n->∀ outs w1,Below w.heap.size w w1->I t outs w1->Calls Tryz.prog g (#[.agg #[.int .i64 (xi0 t),.string (xs1 t),.slice (xa2 t) (xn2 t) (xc2 t),.slice (xa3 t) (xn3 t) (xc3 t)]] ++ cb) w1 fun e w2=>∃ (ui0:Int) (us1:ByteArray) (ua2:Option Addr) (un2:Nat) (uc2:Nat) (ua3:Option Addr) (un3:Nat) (uc3:Nat),e=.returned (.agg #[.int .i64 ui0,.string us1,.slice ua2 un2 uc2,.slice ua3 un3 uc3])/\Below w1.heap.size w1 w2/\I (t+1) (outs ++ [.int .i64 ui0,.string us1,.slice ua2 un2 uc2,.slice ua3 un3 uc3]) w2) :
 Calls Tryz.prog 57 #[.slice ax n c,.func (.func g) #[] cb] w fun e w'=>∃ v outs,e=.returned v/\w'.ownsRow w.heap.size 90 4 v n outs/\Below w.heap.size w w'/\I n outs w':=by
 obtain ⟨i0,hi,hz0,hz1,hz2⟩:=info_parts info_etab
 have HA:=hid ha
 have H0:=hid h0
 have HK:=hid hkeep
 have HS:=hid hstep
 clear ha h0 hkeep hstep
 go_enter Tryz.func57,Tryz.ntmps57
 go_wp2_with fail
 go_loopw [5,10] (fun x ii wr=>∃ (k:Nat) (v:Value) (outs:List Value),k<=n/\ii=.int .i64 k/\v=x/\Hid (OneAt w.heap.size w 90 4 v k outs wr/\I k outs wr)) (fun _ ii _=>n - (intOf ii).toNat)
 case atStart=>exact ⟨0,_,[],Nat.zero_le _,rfl,rfl,⟨World.ownsRow_nil _ _ _ _,Below.refl _ _⟩,H0.out⟩
 case round =>
  obtain ⟨k,v,outs,hk,rfl,rfl,HO⟩:=hrel
  by_cases hlt:k<n
  · obtain ⟨b,off,rfl,hbl,hcs⟩:=HA.out (by omega)
    obtain ⟨h0,h1,h2,h3⟩:=hcs k hlt
    have c0:=(HO.out.1.b.cell (p:=⟨b,off+k * 4,none⟩) hbl).trans h0
    have c1:=(HO.out.1.b.cell (p:=⟨b,off+k * 4+1,none⟩) hbl).trans h1
    have c2:=(HO.out.1.b.cell (p:=⟨b,off+k * 4+2,none⟩) hbl).trans h2
    have c3:=(HO.out.1.b.cell (p:=⟨b,off+k * 4+3,none⟩) hbl).trans h3
    obtain ⟨W1,hW1⟩:∃ W1,wr.alloc (.cells #[.int .i64 (xi0 k),.string (xs1 k),.slice (xa2 k) (xn2 k) (xc2 k),.slice (xa3 k) (xn3 k) (xc3 k)] 90)=W1:=⟨_,rfl⟩
    have hb1:Below wr.heap.size wr W1:=by rw [<- hW1];exact (b0R).alloc (jR _) _
    have O1:=hid (HO.out.1.below hb1 HO.out.1.b.size)
    have I1:=hid ((HK.out _ _).below HO.out.2 hb1)
    have hq:W1.heap[wr.heap.size]? = some (.cells #[.int .i64 (xi0 k),.string (xs1 k),.slice (xa2 k) (xn2 k) (xc2 k),.slice (xa3 k) (xn3 k) (xc3 k)] 90 (0,0)):=by rw [<- hW1];exact heap_alloc_new _ _
    have con:=HS.out k hlt outs W1 O1.out.b I1.out
    have q0:=jC hq 0
    have q1:=jC hq 1
    have q2:=jC hq 2
    have q3:=jC hq 3
    simp only [gT,gZ,gS] at q0 q1 q2 q3
    clear hcs h0 h1 h2 h3 hb1 hq
    obtain ⟨xi0k,exi0⟩:∃ z,z=xi0 k:=⟨_,rfl⟩
    obtain ⟨xs1k,exs1⟩:∃ z,z=xs1 k:=⟨_,rfl⟩
    obtain ⟨xa2k,exa2⟩:∃ z,z=xa2 k:=⟨_,rfl⟩
    obtain ⟨xn2k,exn2⟩:∃ z,z=xn2 k:=⟨_,rfl⟩
    obtain ⟨xc2k,exc2⟩:∃ z,z=xc2 k:=⟨_,rfl⟩
    obtain ⟨xa3k,exa3⟩:∃ z,z=xa3 k:=⟨_,rfl⟩
    obtain ⟨xn3k,exn3⟩:∃ z,z=xn3 k:=⟨_,rfl⟩
    obtain ⟨xc3k,exc3⟩:∃ z,z=xc3 k:=⟨_,rfl⟩
    rw [<- exi0,<- exs1,<- exa2,<- exn2,<- exc2,<- exa3,<- exn3,<- exc3] at con hW1
    simp only [<- exi0,<- exs1,<- exa2,<- exn2,<- exc2,<- exa3,<- exn3,<- exc3] at c0 c1 c2 c3 q0 q1 q2 q3
    clear exi0 exs1 exa2 exn2 exc2 exa3 exn3 exc3
    go_upto_region 5 with (fail)
    clear hW1 c0 c1 c2 c3
    go_wp2_with fail
    refine con.mono ?_
    rintro e w2 ⟨ui0,us1,ua2,un2,uc2,ua3,un3,uc3,rfl,b2,i2⟩
    have O2:=hid (O1.out.below b2 O1.out.b.size)
    have I2:=hid i2
    have hs2:=O2.out.b.size
    clear con b2 i2 q0 q1 q2 q3
    go_wp2_with (at_builtin;go_loud (refine wpList_append_own_at _ rfl _ _ 58 rfl w.heap.size 90 i0 _ 4 72 Tryz.underlying58 hi hz0 hz1 hz2 rfl (by decide) v k _ rfl (O2.out.m.alloc _) ⟨w2.heap.size,0,none⟩ 1 1 [.int .i64 ui0,.string us1,.slice ua2 un2 uc2,.slice ua3 un3 uc3] rfl rfl (fun j u hj=>by rw [addr_add,jC (heap_alloc_new _ _)];simpa using hj) (fun u hu=>by simp only [List.mem_cons,List.not_mem_nil,or_false] at hu;rcases hu with rfl|rfl|rfl|rfl <;> rfl) (by unfold maxLen;omega) (by omega) (by simp;omega) ?_;intro v' w3 o1 g1 hx1 at1;clear hx1 at1;have N3:=hid (show _/\_ from ⟨(O2.out.below ((b0R).alloc (jR _) _) hs2).push (by simp;omega) o1 g1,HK.out _ _ _ _ _ ((HK.out _ _).below I2.out ((b0R).alloc (jR _) _)) (own_tag (O2.out.m.alloc _)) g1⟩);clear o1 g1))
    go_roundw
    case rel=>exact ⟨k+1,_,outs ++ [.int .i64 ui0,.string us1,.slice ua2 un2 uc2,.slice ua3 un3 uc3],by omega,by go_num,rfl,N3⟩
    case measure=>simp [intOf];omega
  · have hkn:k=n:=by omega
    subst hkn
    go_wp2_with fail
    go_ret
    exact ⟨_,outs,rfl,HO.out.1.m,HO.out.1.b,HO.out.2⟩
end
end Go.Proofs.YtjcpccadmcglgaaGreatDoor
