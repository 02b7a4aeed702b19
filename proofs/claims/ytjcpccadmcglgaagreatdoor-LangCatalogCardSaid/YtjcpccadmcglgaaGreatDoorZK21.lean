/- catalog.twice: does a name stand twice?. -/
import Derived.Maps.OwnOps
import Derived.Maps.OwnSet
import Derived.Test.YtjcpccadmcglgaaGreatDoorZK20
import Derived.Test.YtjcpccadmcglgaaGreatDoorZK4
set_option linter.unusedVariables false
set_option linter.unusedSimpArgs false
set_option maxRecDepth 100000
set_option maxHeartbeats 64000000
namespace Go.Proofs.YtjcpccadmcglgaaGreatDoor
open Go.Lib (hid)
section
open Go.RowKit Go.Maps
theorem strF_at {p:Nat->Prop} {w:World} {b off:Nat} {L:List ByteArray} (h:RowAt strF p w (some ⟨b,off,none⟩) L) (t:Nat) (ht:t<L.length):w.cell? ⟨b,off+t,none⟩=some (.string L[t]):=by
 have:=h.flat t ht 0 (by decide)
 simpa [strEnc] using this
theorem twiceB_snoc (l:List ByteArray) (x:ByteArray):twiceB (l ++ [x])=(twiceB l || l.any (sEq x)):=by
 have key:twiceB (l ++ [x])=false ↔ (twiceB l || l.any (sEq x))=false:=by
  rw [twiceB_iff,Bool.or_eq_false_iff,twiceB_iff,List.any_eq_false,List.nodup_append]
  constructor
  · rintro ⟨h1,_,h3⟩
    exact ⟨h1,fun y hy=>by
     have:=h3 y hy x (by simp)
     simp [sEq_ne (Ne.symm this)]⟩
  · rintro ⟨h1,h2⟩
    refine ⟨h1,by simp,fun y hy z hz e=>?_⟩
    rw [List.mem_singleton.1 hz] at e
    subst e
    exact h2 y hy (sEq_self y)
 cases h1:twiceB (l ++ [x]) <;> cases h2:(twiceB l || l.any (sEq x)) <;> simp_all
structure Seen (L:List ByteArray) (k:Nat) (D:DataW Unit):Prop where
 le:Maps.size D<=k
 tw:twiceB (L.take k)=decide (Maps.size D<k)
 has:∀ s:ByteArray,Maps.has D (.string s.data.toList)=(L.take k).any (sEq s)
theorem lit_ne {a b:ByteArray} (h:a ≠ b):(Lit.string a.data.toList) ≠ .string b.data.toList:=by
 intro e
 apply h
 simp only [Lit.string.injEq] at e
 exact (sEq_iff a b).1 (by unfold sEq;rw [toList_data,toList_data,e];simp)
theorem Seen.step {L:List ByteArray} {k:Nat} {D:DataW Unit} (h:Seen L k D) (hk:k<L.length) (ht:Tidy D) (d:DataW Unit):Seen L (k+1) (D.put (.string L[k].data.toList) d):=by
 have e1:L.take (k+1)=L.take k ++ [L[k]]:=List.take_succ_eq_append_getElem hk
 have e2:=Maps.size_put (k:=.string L[k].data.toList) ht d
 have e3:=h.has L[k]
 have e4:=h.le
 have e5:=h.tw
 refine ⟨?_,?_,fun s=>?_⟩
 · rw [e2];split <;> omega
 · rw [e1,twiceB_snoc,e2,<- e3,e5]
   cases hh:Maps.has D (.string L[k].data.toList)
   · simp
   · simp;omega
 · rw [e1,List.any_append]
   by_cases hs:s=L[k]
   · rw [hs,has_put_same ht.isMap (show WideAt.IsKeyLit (.string L[k].data.toList) from trivial)]
     simp [sEq_self]
   · rw [has_put_other (lit_ne hs),h.has s]
     simp [sEq_ne hs]
theorem claw_str:Keyed Tryz.prog 9:=string_keyed Tryz.underlying9
theorem zero_int (w:World):(zeroValue 3).run Tryz.prog w=.ok (.int .i64 0) w:=by kernel_rfl
theorem twice_any {p:Nat->Prop} {a:Option Addr} {c:Nat} {L:List ByteArray} {w:World} (h:SlV strF p w (.slice a L.length c) L) (hs:∀ s ∈ L,s.size<=maxLen) (hL:L.length<=1000000) :
 Calls Tryz.prog 99 #[.slice a L.length c] w fun e w'=>e=.returned (.bool (twiceB L))/\Below w.heap.size w w':=by
 obtain ⟨_,_,_,hr⟩:=h.row
 have HR:=hid hr
 have HS:=hid hs
 clear h hr hs
 have hmm:=@run_makeMap Tryz.prog
 go_enter Tryz.func99,Tryz.ntmps99
 go_wp2_with fail
 go_loopw [9] (fun i wr=>∃ (k:Nat) (D:DataW Unit),k<=L.length/\i=.int .i64 k/\Hid (wr.ownsMap Tryz.prog 9 (plainElem Tryz.prog 3) w.heap.size k D)/\Hid (Seen L k D)/\Hid (Below w.heap.size w wr)) (fun i _=>L.length - (intOf i).toNat)
 case atStart=>exact ⟨0,.map [],Nat.zero_le _,rfl,World.ownsMap_made _ _ _ _,⟨jR _,rfl,fun s=>by simp [Maps.has]⟩,(b0R).alloc (jR _) _⟩
 case round =>
  obtain ⟨k,D,hk,rfl,HO,HD,HB⟩:=hrel
  by_cases hlt:k<L.length
  · obtain ⟨bb,oo,rfl,_,hbb⟩:=HR.out.addr (by intro e;rw [e] at hlt;cases hlt)
    have hc:=(HB.out.cell (p:=⟨bb,oo+k,none⟩) hbb).trans (strF_at HR.out k hlt)
    have HST:=hid (fun d=>HD.out.step hlt (HO.out.tidy claw_str) d)
    have HKY:=hid (WideMaps.keyOf_string_mk Tryz.underlying9 (HS.out _ (List.getElem_mem hlt)))
    obtain ⟨s,hse⟩:∃ s,s=L[k]:=⟨_,rfl⟩
    rw [<- hse] at hc HST HKY
    clear hse
    go_wp2_with (first
     | (at_lookup;refine wpList_lookup_own_int _ rfl _ _ 165 rfl 9 3 .i64 claw_str Tryz.underlying165 Tryz.underlying3 (zero_int _) w.heap.size k D rfl HO.out _ _ rfl HKY.out ?_;intro c hat hwc;clear hat hwc)
     | (at_mapUpdate;refine wpList_mapUpdate_own _ rfl _ _ _ 165 rfl 9 3 claw_str Tryz.underlying165 (plainElem Tryz.prog 3) w.heap.size k D rfl HO.out (by unfold maxLen;omega) _ _ _ rfl rfl HKY.out _ [] (plainElem_int Tryz.underlying3 (wrap64_wf _)) ?_;intro w1 hown1 hgrow1;have N1:=hid (show _/\_ from ⟨hown1,HB.out.grown hgrow1 HB.out.size (fun j hj=>by cases hj;exact jR _)⟩);clear hown1 hgrow1))
    go_roundw
    case rel=>exact ⟨k+1,_,by omega,by go_num,N1.out.1,HST.out _,N1.out.2⟩
    case measure=>simp [intOf];omega
  · have hkn:k=L.length:=by omega
    have HF:=hid (show decide (Maps.size D<L.length)=twiceB L by have:=HD.out.tw;rw [hkn,List.take_length] at this;exact this.symm)
    go_wp2_with (at_len;refine wpList_len_own _ rfl _ 165 rfl 9 3 Tryz.underlying165 (plainElem Tryz.prog 3) w.heap.size k D rfl HO.out ?_)
    go_ret
    exact ⟨by rw [<- HF.out];simp,HB.out⟩
end
section
open Go.RowKit
def StmtV (p:Nat->Prop) (w:World) (v:Value) (s:Stmt):Prop :=
 ∃ (a3:Option Addr) (c3:Nat) (a4:Option Addr) (c4:Nat) (a5:Option Addr) (c5:Nat) (a6:Option Addr) (c6:Nat) (a7:Option Addr) (c7:Nat) (a12:Option Addr) (c12:Nat),
  v=.agg #[.int .i64 s.kind,.string s.table,.string s.name,.slice a3 s.cols.length c3,.slice a4 s.names.length c4,.slice a5 s.row.length c5,.slice a6 s.sets.length c6,.slice a7 s.wher.length c7,.string s.join,.string s.left,.string s.right,.int .i64 s.agg,.slice a12 s.order.length c12,.int .i64 s.mode,.int .i64 s.n] /\
  SlV colR p w (.slice a3 s.cols.length c3) s.cols/\SlV strF p w (.slice a4 s.names.length c4) s.names/\SlV valR p w (.slice a5 s.row.length c5) s.row/\SlV setR p w (.slice a6 s.sets.length c6) s.sets/\SlV condR p w (.slice a7 s.wher.length c7) s.wher/\SlV strF p w (.slice a12 s.order.length c12) s.order
theorem StmtV.keep {p:Nat->Prop} {w w':World} {v:Value} {s:Stmt} (h:StmtV p w v s) (hk:∀ k,p k->k<w.heap.size->w'.heap[k]? = w.heap[k]?):StmtV p w' v s:=by
 obtain ⟨a3,c3,a4,c4,a5,c5,a6,c6,a7,c7,a12,c12,h0,h1,h2,h3,h4,h5,h6⟩:=h
 exact ⟨a3,c3,a4,c4,a5,c5,a6,c6,a7,c7,a12,c12,h0,h1.keep hk,h2.keep hk,h3.keep hk,h4.keep hk,h5.keep hk,h6.keep hk⟩
theorem StmtV.below {p:Nat->Prop} {w w':World} {v:Value} {s:Stmt} (h:StmtV p w v s) (hb:Below w.heap.size w w'):StmtV p w' v s:=h.keep fun k _ hk=>hb.block k hk
theorem StmtV.weaken {p q:Nat->Prop} {w:World} {v:Value} {s:Stmt} (h:StmtV p w v s) (hk:∀ k,p k->q k):StmtV q w v s:=by
 obtain ⟨a3,c3,a4,c4,a5,c5,a6,c6,a7,c7,a12,c12,h0,h1,h2,h3,h4,h5,h6⟩:=h
 exact ⟨a3,c3,a4,c4,a5,c5,a6,c6,a7,c7,a12,c12,h0,h1.weaken hk,h2.weaken hk,h3.weaken hk,h4.weaken hk,h5.weaken hk,h6.weaken hk⟩
theorem StmtV.bound {p:Nat->Prop} {w:World} {v:Value} {s:Stmt} (h:StmtV p w v s):StmtV (fun k=>p k/\k<w.heap.size) w v s:=by
 obtain ⟨a3,c3,a4,c4,a5,c5,a6,c6,a7,c7,a12,c12,h0,h1,h2,h3,h4,h5,h6⟩:=h
 exact ⟨a3,c3,a4,c4,a5,c5,a6,c6,a7,c7,a12,c12,h0,h1.bound,h2.bound,h3.bound,h4.bound,h5.bound,h6.bound⟩
theorem grown_cell (w:World) (p:Addr) (x:Value):w.grownBy (w.setCell p x) (some p.block):=by
 have hb:Below p.block w (w.setCell p x):=(b0R).setCell (jR _) x
 exact ⟨hb.os,hb.tape,hb.output,hb.size,fun c _ hc=>Below.heap_setCell w p x c (fun e=>hc (by rw [e]))⟩
def Apart (vs:List (Value × Value)):Prop:=∀ s t (_:s<vs.length) (_:t<vs.length),s ≠ t->∀ g,(vs[s].1.ownBlock=some g->vs[t].1.ownBlock ≠ some g)/\(vs[s].2.ownBlock=some g->vs[t].2.ownBlock ≠ some g)
structure Free (X:Nat->Prop) (b:Nat) (v:Value) (vs:List (Value × Value)):Prop where
 blk:¬ X b
 tab:∀ k,v.ownBlock=some k->¬ X k
 col:∀ t (_:t<vs.length) k,vs[t].1.ownBlock=some k->¬ X k
 ix:∀ t (_:t<vs.length) k,vs[t].2.ownBlock=some k->¬ X k
theorem Free.weaken {X Y:Nat->Prop} {b:Nat} {v:Value} {vs:List (Value × Value)} (h:Free X b v vs) (hy:∀ k,Y k->X k):Free Y b v vs :=
 ⟨fun e=>h.blk (hy _ e),fun k hk e=>h.tab k hk (hy _ e),fun t ht k hk e=>h.col t ht k hk (hy _ e),fun t ht k hk e=>h.ix t ht k hk (hy _ e)⟩
def CatAt (B:Nat) (X:Nat->Prop) (b:Nat) (C:List Tab) (w:World):Prop :=
 B<=b/\∃ (v:Value) (vs:List (Value × Value)),vs.length=C.length/\w.heap[b]? = some (.cells #[v] 60 (0,0))/\w.ownsRow B 90 4 v C.length ((C.zip vs).flatMap tabCells)/\TabParts B C vs w/\Apart vs/\Free X b v vs
theorem CatAt.below {B b:Nat} {X:Nat->Prop} {C:List Tab} {w w':World} (h:CatAt B X b C w) (hb:Below w.heap.size w w'):CatAt B X b C w':=by
 obtain ⟨h0,v,vs,h1,h2,h3,h4,h5⟩:=h
 exact ⟨h0,v,vs,h1,(hb.block _ (jB h2)).trans h2,owns_below h3 hb,h4.below hb,h5⟩
theorem CatAt.weaken {B b:Nat} {X Y:Nat->Prop} {C:List Tab} {w:World} (h:CatAt B X b C w) (hy:∀ k,Y k->X k):CatAt B Y b C w:=by
 obtain ⟨h0,v,vs,h1,h2,h3,h4,h5,h6⟩:=h
 exact ⟨h0,v,vs,h1,h2,h3,h4,h5,h6.weaken hy⟩
theorem CatAt.fresh {B b:Nat} {X Y:Nat->Prop} {C:List Tab} {w:World} (h:CatAt B X b C w) (hy:∀ k,Y k->X k \/ w.heap.size<=k):CatAt B Y b C w:=by
 obtain ⟨h0,v,vs,h1,h2,h3,h4,h5,h6⟩:=h
 refine ⟨h0,v,vs,h1,h2,h3,h4,h5,fun e=>?_,fun k hk e=>?_,fun t ht k hk e=>?_,fun t ht k hk e=>?_⟩
 · rcases hy _ e with e|e
   · exact h6.blk e
   · have:=jB h2;omega
 · rcases hy _ e with e|e
   · exact h6.tab k hk e
   · have:=(h3.lt k hk).2;omega
 · rcases hy _ e with e|e
   · exact h6.col t ht k hk e
   · have:=(World.ownsRow.lt (h4 t (by omega) ht).1 k hk).2;omega
 · rcases hy _ e with e|e
   · exact h6.ix t ht k hk e
   · obtain ⟨_,_,q,_⟩:=(h4 t (by omega) ht).2
     have:=(q.lt k hk).2;omega
theorem CatAt.sl {B b:Nat} {X:Nat->Prop} {C:List Tab} {w:World} (h:CatAt B X b C w) (hs:TabsSmall C):∃ a c,w.heap[b]? = some (.cells #[.slice a C.length c] 60 (0,0))/\SlV tabR (fun k=>B<=k) w (.slice a C.length c) C:=by
 obtain ⟨h0,v,vs,h1,h2,h3,h4,h5⟩:=h
 have hv:=tabs_sl h1 h3 h4 (by have:=hs.1;omega) (fun t ht=>by
  obtain ⟨s1,s2,s3⟩:=hs.2 t ht
  exact ⟨by omega,by omega,fun x hx=>by have:=s3 x hx;omega⟩)
 obtain ⟨a,c,rfl⟩:=hv.shape
 exact ⟨a,c,h2,hv⟩
theorem tag_cell {w:World} {b:Nat} {cs:Array Value} {T:TypeId} (h:w.heap[b]? = some (.cells cs T (0,0))) {B:Nat} (hB:B<=b):∀ g,some b=some g->B<=g/\∀ cs' T' fz,w.heap[g]? = some (.cells cs' T' fz)->T'=T:=by
 rintro g e
 cases e
 refine ⟨hB,fun cs' T' fz h'=>?_⟩
 rw [h] at h'
 simp at h'
 exact h'.2.1.symm
theorem ixOwn_nil (B:Nat) (w:World):IxOwn B [] (.slice none 0 0) w:=⟨[],rfl,World.ownsRow_nil _ _ _ _,fun t h=>by cases h⟩
theorem catAt_push {B b:Nat} {X:Nat->Prop} {C:List Tab} {T:Tab} {v v' cv:Value} {vs:List (Value × Value)} {w w1:World} (hB:B<=b) (hl:vs.length=C.length) (hb:w.heap[b]? = some (.cells #[v] 60 (0,0))) (ho:w.ownsRow B 90 4 v C.length ((C.zip vs).flatMap tabCells)) (hp:TabParts B C vs w) (ha:Apart vs) (hF:Free X b v vs) (hF1:∀ k,v'.ownBlock=some k->¬ X k) (hF2:∀ k,cv.ownBlock=some k->¬ X k)
 (hcv:ColOwn B T.cols cv w) (hfr:∀ g,cv.ownBlock=some g->∀ t (h:t<vs.length),vs[t].1.ownBlock ≠ some g) (hT:T.idx=[])
 (o1:w1.ownsRow B 90 4 v' (C.length+1) ((C.zip vs).flatMap tabCells ++ tabCells (T,cv,.slice none 0 0))) (g1:w.grownBy w1 v.ownBlock):CatAt B X b (C ++ [T]) (w1.setCell ⟨b,0,none⟩ v'):=by
 have hb1:w1.heap[b]? = some (.cells #[v] 60 (0,0)):=(g1.block _ (jB hb) (row_not hb ho (by decide))).trans hb
 have hg2:=grown_cell w1 ⟨b,0,none⟩ v'
 have ht2:=tag_cell hb1 hB
 have hcv2:ColOwn B T.cols cv (w1.setCell ⟨b,0,none⟩ v'):=keeps_owns (B':=B) (T:=60) (by decide) w1 _ (some b) (keeps_owns (B':=B) (T:=90) (by decide) w w1 _ hcv (own_tag ho) g1) ht2 hg2
 have hp2:TabParts B C vs (w1.setCell ⟨b,0,none⟩ v'):=tabParts_keeps B B C vs 60 (by decide) (by decide) (by decide) w1 _ (some b) (tabParts_keeps B B C vs 90 (by decide) (by decide) (by decide) w w1 _ hp (own_tag ho) g1) ht2 hg2
 refine ⟨hB,v',vs ++ [(cv,.slice none 0 0)],by simp [hl],one_setCell hb1,?_,fun t h1 h2=>?_,fun s t h1 h2 hst g=>?_,hF.blk,hF1,fun t ht k hk=>?_,fun t ht k hk=>?_⟩
 · have e:(C ++ [T]).zip (vs ++ [(cv,.slice none 0 0)])=C.zip vs ++ [(T,cv,.slice none 0 0)]:=by rw [List.zip_append hl.symm];rfl
   rw [e,List.flatMap_append,List.length_append]
   simpa using keeps_owns (B':=B) (T:=60) (by decide) w1 _ (some b) o1 ht2 hg2
 · by_cases htl:t<C.length
   · simp only [List.getElem_append_left htl,List.getElem_append_left (show t<vs.length by omega)]
     exact hp2 t htl (by omega)
   · obtain rfl:t=C.length:=by rw [List.length_append] at h1;simp at h1;omega
     have e1:(C ++ [T])[C.length]=T:=by simp
     have e2:(vs ++ [(cv,Value.slice none 0 0)])[C.length]=(cv,.slice none 0 0):=by simp [<- hl]
     rw [e1,e2,hT]
     exact ⟨hcv2,ixOwn_nil _ _⟩
 · have hlen:(vs ++ [(cv,Value.slice none 0 0)]).length=vs.length+1:=by simp
   rw [hlen] at h1 h2
   rcases Nat.lt_or_eq_of_le (Nat.le_of_lt_succ h1) with hs|rfl
   · rcases Nat.lt_or_eq_of_le (Nat.le_of_lt_succ h2) with ht|rfl
     · simp only [List.getElem_append_left hs,List.getElem_append_left ht]
       exact ha s t hs ht hst g
     · simp only [List.getElem_append_left hs,List.getElem_append_right (jR _),Nat.sub_self,List.getElem_cons_zero]
       refine ⟨fun h1 h2=>hfr g h2 s hs h1,fun _ h=>?_⟩
       simp [Value.ownBlock] at h
   · have ht:t<vs.length:=by omega
     simp only [List.getElem_append_left ht,List.getElem_append_right (jR _),Nat.sub_self,List.getElem_cons_zero]
     refine ⟨fun h1=>hfr g h1 t ht,fun h=>?_⟩
     simp [Value.ownBlock] at h
 · by_cases htl:t<vs.length
   · simp only [List.getElem_append_left htl] at hk
     exact hF.col t htl k hk
   · obtain rfl:t=vs.length:=by rw [List.length_append] at ht;simp at ht;omega
     simp only [List.getElem_append_right (jR _),Nat.sub_self,List.getElem_cons_zero] at hk
     exact hF2 k hk
 · by_cases htl:t<vs.length
   · simp only [List.getElem_append_left htl] at hk
     exact hF.ix t htl k hk
   · obtain rfl:t=vs.length:=by rw [List.length_append] at ht;simp at ht;omega
     simp only [List.getElem_append_right (jR _),Nat.sub_self,List.getElem_cons_zero] at hk
     simp [Value.ownBlock] at hk
def CatPost (B:Nat) (X:Nat->Prop) (b:Nat) (w:World) (r:Int × List Tab) (e:Ending) (w':World):Prop:=e=.returned (.int .i64 r.1)/\Below B w w'/\(∀ k,X k->w'.heap[k]? = w.heap[k]?)/\CatAt B X b r.2 w'
theorem CatPost.err {B b:Nat} {X:Nat->Prop} {C:List Tab} {w w':World} {r:Int × List Tab} {k:Int} (hC:CatAt B X b C w) (hX:∀ k,X k->k<w.heap.size) (hr:r=(k,C)) (hB:B<=w.heap.size) (hb:Below w.heap.size w w'):CatPost B X b w r (.returned (.int .i64 k)) w':=by
 rw [hr]
 exact ⟨rfl,hb.mono hB,fun k hk=>hb.block k (hX k hk),hC.below hb⟩
theorem neg_any {p:Nat->Prop} {a:Option Addr} {c:Nat} {L:List Int} {w:World} (h:SlV intR p w (.slice a L.length c) L):Calls Tryz.prog 104 #[.slice a L.length c,.int .i64 (-1)] w fun e w'=>e=.returned (.bool (anyNeg L))/\w'=w:=by
 obtain ⟨_,_,hl,hr⟩:=h.row
 have key:L.contains (-1)=anyNeg L:=by
  unfold anyNeg
  rw [List.contains_eq_any_beq]
  congr 1
  funext x
  by_cases hx:x=-1
  · subst hx;rfl
  · have h2:¬ (-1:Int)=x:=fun e=>hx e.symm
    rw [decide_eq_false hx]
    simpa using h2
 rcases hr with rfl|⟨b,off,rfl,_,_,hc⟩
 · exact Tryz.slices_Contains_int_empty a c (-1) w
 · have:=Tryz.slices_Contains_int b off L.length c L (-1) w (jR _) (by omega) (fun j hj=>by
    obtain ⟨cs,h1,rfl⟩:=hc j hj
    have h2:=h1 0 (by simp [intR])
    simpa [intR,List.getD_eq_getElem?_getD,List.getElem?_eq_getElem hj] using h2)
   rw [List.take_length,key] at this
   exact this
def strAt (L:List ByteArray) (t:Nat):ByteArray:=(L[t]?).getD noStr
theorem strAt_eq {L:List ByteArray} {t:Nat} (h:t<L.length):strAt L t=L[t]:=by
 unfold strAt
 rw [List.getElem?_eq_getElem h];rfl
theorem cr1_any (s:ByteArray) (w:World):Calls Tryz.prog 96 #[.string s] w fun e w'=>e=.returned (.bool (!namedB s))/\Below w.heap.size w w':=by
 go_enter Tryz.func96,Tryz.ntmps96
 go_wp2_with fail
 refine (cnamed_any s _).mono ?_
 rintro e w2 ⟨rfl,rfl⟩
 go_wp2_with fail
 go_ret
 exact ⟨rfl,Below.refl _ _⟩
theorem notnamed_any {p:Nat->Prop} {a:Option Addr} {c:Nat} {L:List ByteArray} {w:World} (h:SlV strF p w (.slice a L.length c) L) :
 Calls Tryz.prog 95 #[.slice a L.length c,.func (.func 96) #[] #[]] w fun e w'=>e=.returned (.bool (L.any fun s=>!namedB s))/\Below w.heap.size w w':=by
 obtain ⟨_,_,hl,hr⟩:=h.row
 rw [<- anyN_list (fun s=>!namedB s) L (fun t=>!namedB (strAt L t)) (fun t ht=>by rw [strAt_eq ht])]
 refine cf_str (cb:=#[]) (x0:=fun t=>.string (strAt L t)) (fun t=>!namedB (strAt L t)) (enters_of Tryz.func96 (by kernel_rfl) rfl) hl (fun h0=>?_) (fun t ht w1 b1=>cr1_any _ _)
 obtain ⟨b,off,rfl,_,hb⟩:=hr.addr (by intro e;rw [e] at h0;cases h0)
 exact ⟨b,off,rfl,hb,fun t ht=>by rw [strAt_eq ht];exact strF_at hr t ht⟩
def colAt (L:List (ByteArray × Int)) (t:Nat):ByteArray × Int:=(L[t]?).getD (noStr,0)
theorem colAt_eq {L:List (ByteArray × Int)} {t:Nat} (h:t<L.length):colAt L t=L[t]:=by
 unfold colAt
 rw [List.getElem?_eq_getElem h];rfl
def badKind (k:Int):Bool:=decide (k ≠ 1) && decide (k ≠ 2)
theorem cr2_any (s:ByteArray) (k:Int) (w:World):Calls Tryz.prog 98 #[.agg #[.string s,.int .i64 k]] w fun e w'=>e=.returned (.bool (badKind k))/\Below w.heap.size w w':=by
 have hb:Below w.heap.size w (w.alloc (Obj.cells #[.string s,.int .i64 k] 62)):=(b0R).alloc (jR _) _
 by_cases h1:k=1
 · subst h1
   go_enter Tryz.func98,Tryz.ntmps98
   go_wp2_with fail
   go_ret
   exact ⟨rfl,hb⟩
 · have HF:=hid (show badKind k=decide (k ≠ 2) by simp [badKind,h1])
   have h2:(k != 1)=true:=by simpa using h1
   go_enter Tryz.func98,Tryz.ntmps98
   go_wp2_with fail
   go_ret
   refine ⟨?_,hb⟩
   rw [HF.out]
   by_cases h3:k=2
   · subst h3;rfl
   · simp [h3]
theorem badkinds_any {p:Nat->Prop} {a:Option Addr} {c:Nat} {L:List (ByteArray × Int)} {w:World} (h:SlV colR p w (.slice a L.length c) L) :
 Calls Tryz.prog 97 #[.slice a L.length c,.func (.func 98) #[] #[]] w fun e w'=>e=.returned (.bool (L.any fun c=>decide (c.2 ≠ 1) && decide (c.2 ≠ 2)))/\Below w.heap.size w w':=by
 obtain ⟨_,_,hl,hr⟩:=h.row
 rw [<- anyN_list (fun c=>decide (c.2 ≠ 1) && decide (c.2 ≠ 2)) L (fun t=>badKind (colAt L t).2) (fun t ht=>by rw [colAt_eq ht];rfl)]
 refine cf_col (cb:=#[]) (x0:=fun t=>.string (colAt L t).1) (x1:=fun t=>.int .i64 (colAt L t).2) (fun t=>badKind (colAt L t).2) (enters_of Tryz.func98 (by kernel_rfl) rfl) hl (fun h0=>?_) (fun t ht w1 b1=>cr2_any _ _ _)
 obtain ⟨b,off,rfl,_,hb⟩:=hr.addr (by intro e;rw [e] at h0;cases h0)
 exact ⟨b,off,rfl,hb,fun t ht=>by rw [colAt_eq ht];exact hr.col t ht⟩
end
end Go.Proofs.YtjcpccadmcglgaaGreatDoor
