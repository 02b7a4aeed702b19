/- catalog.twice: does a name stand twice?. -/
import Derived.Maps.OwnOps
import Derived.Maps.OwnSet
import Derived.Test.YtgemihkcihigpaaGreatDoorZD20
set_option linter.unusedVariables false
set_option linter.unusedSimpArgs false
set_option maxRecDepth 100000
set_option maxHeartbeats 64000000
namespace Go.Proofs.YtgemihkcihigpaaGreatDoor
open Go.Lib (hid)
section
open Go.RowKit Go.Maps
theorem strF_at {p:Nat->Prop} {w:World} {b off:Nat} {L:List ByteArray} (h:RowAt strF p w (some ⟨b,off,none⟩) L) (t:Nat) (ht:t<L.length):w.cell? ⟨b,off+t,none⟩=some (.string L[t]):=by
 have:=h.flat t ht 0 (by decide)
 simpa [strEnc] using this
theorem twiceB_snoc (l:List ByteArray) (x:ByteArray):twiceB (l ++ [x])=(twiceB l || l.any (sEq x)):=by
 have key:twiceB (l ++ [x])=false ↔ (twiceB l || l.any (sEq x))=false:=by
  rw [twiceB_iff,Bool.or_eq_false_iff,twiceB_iff,List.any_eq_false,List.nodup_append]
  constructor
  · rintro ⟨h1,_,h3⟩
    exact ⟨h1,fun y hy=>by
     have:=h3 y hy x (by simp)
     simp [sEq_ne (Ne.symm this)]⟩
  · rintro ⟨h1,h2⟩
    refine ⟨h1,by simp,fun y hy z hz e=>?_⟩
    rw [List.mem_singleton.1 hz] at e
    subst e
    exact h2 y hy (sEq_self y)
 cases h1:twiceB (l ++ [x]) <;> cases h2:(twiceB l || l.any (sEq x)) <;> simp_all
structure Seen (L:List ByteArray) (k:Nat) (D:DataW Unit):Prop where
 le:Maps.size D<=k
 tw:twiceB (L.take k)=decide (Maps.size D<k)
 has:∀ s:ByteArray,Maps.has D (.string s.data.toList)=(L.take k).any (sEq s)
theorem lit_ne {a b:ByteArray} (h:a ≠ b):(Lit.string a.data.toList) ≠ .string b.data.toList:=by
 intro e
 apply h
 simp only [Lit.string.injEq] at e
 exact (sEq_iff a b).1 (by unfold sEq;rw [toList_data,toList_data,e];simp)
theorem Seen.step {L:List ByteArray} {k:Nat} {D:DataW Unit} (h:Seen L k D) (hk:k<L.length) (ht:Tidy D) (d:DataW Unit):Seen L (k+1) (D.put (.string L[k].data.toList) d):=by
 have e1:L.take (k+1)=L.take k ++ [L[k]]:=List.take_succ_eq_append_getElem hk
 have e2:=Maps.size_put (k:=.string L[k].data.toList) ht d
 have e3:=h.has L[k]
 have e4:=h.le
 have e5:=h.tw
 refine ⟨?_,?_,fun s=>?_⟩
 · rw [e2];split <;> omega
 · rw [e1,twiceB_snoc,e2,<- e3,e5]
   cases hh:Maps.has D (.string L[k].data.toList)
   · simp
   · simp;omega
 · rw [e1,List.any_append]
   by_cases hs:s=L[k]
   · rw [hs,has_put_same ht.isMap (show WideAt.IsKeyLit (.string L[k].data.toList) from trivial)]
     simp [sEq_self]
   · rw [has_put_other (lit_ne hs),h.has s]
     simp [sEq_ne hs]
theorem law_str:Keyed Tryz.prog 9:=string_keyed Tryz.underlying9
theorem zero_int (w:World):(zeroValue 3).run Tryz.prog w=.ok (.int .i64 0) w:=by kernel_rfl
theorem twice_any {p:Nat->Prop} {a:Option Addr} {c:Nat} {L:List ByteArray} {w:World} (h:SlV strF p w (.slice a L.length c) L) (hs:∀ s ∈ L,s.size<=maxLen) (hL:L.length<=1000000) :
 Calls Tryz.prog 167 #[.slice a L.length c] w fun e w'=>e=.returned (.bool (twiceB L))/\Below w.heap.size w w':=by
 obtain ⟨_,_,_,hr⟩:=h.row
 have HR:=hid hr
 have HS:=hid hs
 clear h hr hs
 have hmm:=@run_makeMap Tryz.prog
 go_enter Tryz.func167,Tryz.ntmps167
 go_wp2_with fail
 go_loopw [9] (fun i wr=>∃ (k:Nat) (D:DataW Unit),k<=L.length/\i=.int .i64 k/\Hid (wr.ownsMap Tryz.prog 9 (plainElem Tryz.prog 3) w.heap.size k D)/\Hid (Seen L k D)/\Hid (Below w.heap.size w wr)) (fun i _=>L.length - (intOf i).toNat)
 case atStart=>exact ⟨0,.map [],Nat.zero_le _,rfl,World.ownsMap_made _ _ _ _,⟨jR _,rfl,fun s=>by simp [Maps.has]⟩,(b0R).alloc (jR _) _⟩
 case round =>
  obtain ⟨k,D,hk,rfl,HO,HD,HB⟩:=hrel
  by_cases hlt:k<L.length
  · obtain ⟨bb,oo,rfl,_,hbb⟩:=HR.out.addr (by intro e;rw [e] at hlt;cases hlt)
    have hc:=(HB.out.cell (p:=⟨bb,oo+k,none⟩) hbb).trans (strF_at HR.out k hlt)
    have HST:=hid (fun d=>HD.out.step hlt (HO.out.tidy law_str) d)
    have HKY:=hid (WideMaps.keyOf_string_mk Tryz.underlying9 (HS.out _ (List.getElem_mem hlt)))
    obtain ⟨s,hse⟩:∃ s,s=L[k]:=⟨_,rfl⟩
    rw [<- hse] at hc HST HKY
    clear hse
    go_wp2_with (first
     | (at_lookup;refine wpList_lookup_own_int _ rfl _ _ 205 rfl 9 3 .i64 law_str Tryz.underlying205 Tryz.underlying3 (zero_int _) w.heap.size k D rfl HO.out _ _ rfl HKY.out ?_;intro c hat hwc;clear hat hwc)
     | (at_mapUpdate;refine wpList_mapUpdate_own _ rfl _ _ _ 205 rfl 9 3 law_str Tryz.underlying205 (plainElem Tryz.prog 3) w.heap.size k D rfl HO.out (by unfold maxLen;omega) _ _ _ rfl rfl HKY.out _ [] (plainElem_int Tryz.underlying3 (wrap64_wf _)) ?_;intro w1 hown1 hgrow1;have N1:=hid (show _/\_ from ⟨hown1,HB.out.grown hgrow1 HB.out.size (fun j hj=>by cases hj;exact jR _)⟩);clear hown1 hgrow1))
    go_roundw
    case rel=>exact ⟨k+1,_,by omega,by go_num,N1.out.1,HST.out _,N1.out.2⟩
    case measure=>simp [intOf];omega
  · have hkn:k=L.length:=by omega
    have HF:=hid (show decide (Maps.size D<L.length)=twiceB L by have:=HD.out.tw;rw [hkn,List.take_length] at this;exact this.symm)
    go_wp2_with (at_len;refine wpList_len_own _ rfl _ 205 rfl 9 3 Tryz.underlying205 (plainElem Tryz.prog 3) w.heap.size k D rfl HO.out ?_)
    go_ret
    exact ⟨by rw [<- HF.out];simp,HB.out⟩
end
section
open Go.RowKit
def StmtV (p:Nat->Prop) (w:World) (v:Value) (s:Stmt):Prop :=
 ∃ (a3:Option Addr) (c3:Nat) (a4:Option Addr) (c4:Nat) (a5:Option Addr) (c5:Nat) (a6:Option Addr) (c6:Nat) (a7:Option Addr) (c7:Nat) (a12:Option Addr) (c12:Nat),
  v=.agg #[.int .i64 s.kind,.string s.table,.string s.name,.slice a3 s.cols.length c3,.slice a4 s.names.length c4,.slice a5 s.row.length c5,.slice a6 s.sets.length c6,.slice a7 s.wher.length c7,.string s.join,.string s.left,.string s.right,.int .i64 s.agg,.slice a12 s.order.length c12,.int .i64 s.mode,.int .i64 s.n] /\
  SlV colR p w (.slice a3 s.cols.length c3) s.cols/\SlV strF p w (.slice a4 s.names.length c4) s.names/\SlV valR p w (.slice a5 s.row.length c5) s.row/\SlV setR p w (.slice a6 s.sets.length c6) s.sets/\SlV condR p w (.slice a7 s.wher.length c7) s.wher/\SlV strF p w (.slice a12 s.order.length c12) s.order
theorem StmtV.keep {p:Nat->Prop} {w w':World} {v:Value} {s:Stmt} (h:StmtV p w v s) (hk:∀ k,p k->k<w.heap.size->w'.heap[k]? = w.heap[k]?):StmtV p w' v s:=by
 obtain ⟨a3,c3,a4,c4,a5,c5,a6,c6,a7,c7,a12,c12,h0,h1,h2,h3,h4,h5,h6⟩:=h
 exact ⟨a3,c3,a4,c4,a5,c5,a6,c6,a7,c7,a12,c12,h0,h1.keep hk,h2.keep hk,h3.keep hk,h4.keep hk,h5.keep hk,h6.keep hk⟩
theorem StmtV.below {p:Nat->Prop} {w w':World} {v:Value} {s:Stmt} (h:StmtV p w v s) (hb:Below w.heap.size w w'):StmtV p w' v s:=h.keep fun k _ hk=>hb.block k hk
theorem StmtV.weaken {p q:Nat->Prop} {w:World} {v:Value} {s:Stmt} (h:StmtV p w v s) (hk:∀ k,p k->q k):StmtV q w v s:=by
 obtain ⟨a3,c3,a4,c4,a5,c5,a6,c6,a7,c7,a12,c12,h0,h1,h2,h3,h4,h5,h6⟩:=h
 exact ⟨a3,c3,a4,c4,a5,c5,a6,c6,a7,c7,a12,c12,h0,h1.weaken hk,h2.weaken hk,h3.weaken hk,h4.weaken hk,h5.weaken hk,h6.weaken hk⟩
theorem grown_cell (w:World) (p:Addr) (x:Value):w.grownBy (w.setCell p x) (some p.block):=by
 have hb:Below p.block w (w.setCell p x):=(b0R).setCell (jR _) x
 exact ⟨hb.os,hb.tape,hb.output,hb.size,fun c _ hc=>Below.heap_setCell w p x c (fun e=>hc (by rw [e]))⟩
def Apart (vs:List (Value × Value)):Prop:=∀ s t (_:s<vs.length) (_:t<vs.length),s ≠ t->∀ g,(vs[s].1.ownBlock=some g->vs[t].1.ownBlock ≠ some g)/\(vs[s].2.ownBlock=some g->vs[t].2.ownBlock ≠ some g)
structure Free (X:Nat->Prop) (b:Nat) (v:Value) (vs:List (Value × Value)):Prop where
 blk:¬ X b
 tab:∀ k,v.ownBlock=some k->¬ X k
 col:∀ t (_:t<vs.length) k,vs[t].1.ownBlock=some k->¬ X k
 ix:∀ t (_:t<vs.length) k,vs[t].2.ownBlock=some k->¬ X k
theorem Free.weaken {X Y:Nat->Prop} {b:Nat} {v:Value} {vs:List (Value × Value)} (h:Free X b v vs) (hy:∀ k,Y k->X k):Free Y b v vs :=
 ⟨fun e=>h.blk (hy _ e),fun k hk e=>h.tab k hk (hy _ e),fun t ht k hk e=>h.col t ht k hk (hy _ e),fun t ht k hk e=>h.ix t ht k hk (hy _ e)⟩
def CatAt (B:Nat) (X:Nat->Prop) (b:Nat) (C:List Tab) (w:World):Prop :=
 B<=b/\∃ (v:Value) (vs:List (Value × Value)),vs.length=C.length/\w.heap[b]? = some (.cells #[v] 166 (0,0))/\w.ownsRow B 75 4 v C.length ((C.zip vs).flatMap tabCells)/\TabParts B C vs w/\Apart vs/\Free X b v vs
theorem CatAt.below {B b:Nat} {X:Nat->Prop} {C:List Tab} {w w':World} (h:CatAt B X b C w) (hb:Below w.heap.size w w'):CatAt B X b C w':=by
 obtain ⟨h0,v,vs,h1,h2,h3,h4,h5⟩:=h
 exact ⟨h0,v,vs,h1,(hb.block _ (jB h2)).trans h2,owns_below h3 hb,h4.below hb,h5⟩
theorem CatAt.weaken {B b:Nat} {X Y:Nat->Prop} {C:List Tab} {w:World} (h:CatAt B X b C w) (hy:∀ k,Y k->X k):CatAt B Y b C w:=by
 obtain ⟨h0,v,vs,h1,h2,h3,h4,h5,h6⟩:=h
 exact ⟨h0,v,vs,h1,h2,h3,h4,h5,h6.weaken hy⟩
theorem CatAt.fresh {B b:Nat} {X Y:Nat->Prop} {C:List Tab} {w:World} (h:CatAt B X b C w) (hy:∀ k,Y k->X k \/ w.heap.size<=k):CatAt B Y b C w:=by
 obtain ⟨h0,v,vs,h1,h2,h3,h4,h5,h6⟩:=h
 refine ⟨h0,v,vs,h1,h2,h3,h4,h5,fun e=>?_,fun k hk e=>?_,fun t ht k hk e=>?_,fun t ht k hk e=>?_⟩
 · rcases hy _ e with e|e
   · exact h6.blk e
   · have:=jB h2;omega
 · rcases hy _ e with e|e
   · exact h6.tab k hk e
   · have:=(h3.lt k hk).2;omega
 · rcases hy _ e with e|e
   · exact h6.col t ht k hk e
   · have:=(World.ownsRow.lt (h4 t (by omega) ht).1 k hk).2;omega
 · rcases hy _ e with e|e
   · exact h6.ix t ht k hk e
   · obtain ⟨_,_,q,_⟩:=(h4 t (by omega) ht).2
     have:=(q.lt k hk).2;omega
theorem CatAt.sl {B b:Nat} {X:Nat->Prop} {C:List Tab} {w:World} (h:CatAt B X b C w) (hs:TabsSmall C):∃ a c,w.heap[b]? = some (.cells #[.slice a C.length c] 166 (0,0))/\SlV tabR (fun k=>B<=k) w (.slice a C.length c) C:=by
 obtain ⟨h0,v,vs,h1,h2,h3,h4,h5⟩:=h
 have hv:=tabs_sl h1 h3 h4 (by have:=hs.1;omega) (fun t ht=>by
  obtain ⟨s1,s2,s3⟩:=hs.2 t ht
  exact ⟨by omega,by omega,fun x hx=>by have:=s3 x hx;omega⟩)
 obtain ⟨a,c,rfl⟩:=hv.shape
 exact ⟨a,c,h2,hv⟩
theorem tag_cell {w:World} {b:Nat} {cs:Array Value} {T:TypeId} (h:w.heap[b]? = some (.cells cs T (0,0))) {B:Nat} (hB:B<=b):∀ g,some b=some g->B<=g/\∀ cs' T' fz,w.heap[g]? = some (.cells cs' T' fz)->T'=T:=by
 rintro g e
 cases e
 refine ⟨hB,fun cs' T' fz h'=>?_⟩
 rw [h] at h'
 simp at h'
 exact h'.2.1.symm
theorem ixOwn_nil (B:Nat) (w:World):IxOwn B [] (.slice none 0 0) w:=⟨[],rfl,World.ownsRow_nil _ _ _ _,fun t h=>by cases h⟩
theorem catAt_push {B b:Nat} {X:Nat->Prop} {C:List Tab} {T:Tab} {v v' cv:Value} {vs:List (Value × Value)} {w w1:World} (hB:B<=b) (hl:vs.length=C.length) (hb:w.heap[b]? = some (.cells #[v] 166 (0,0))) (ho:w.ownsRow B 75 4 v C.length ((C.zip vs).flatMap tabCells)) (hp:TabParts B C vs w) (ha:Apart vs) (hF:Free X b v vs) (hF1:∀ k,v'.ownBlock=some k->¬ X k) (hF2:∀ k,cv.ownBlock=some k->¬ X k)
 (hcv:ColOwn B T.cols cv w) (hfr:∀ g,cv.ownBlock=some g->∀ t (h:t<vs.length),vs[t].1.ownBlock ≠ some g) (hT:T.idx=[])
 (o1:w1.ownsRow B 75 4 v' (C.length+1) ((C.zip vs).flatMap tabCells ++ tabCells (T,cv,.slice none 0 0))) (g1:w.grownBy w1 v.ownBlock):CatAt B X b (C ++ [T]) (w1.setCell ⟨b,0,none⟩ v'):=by
 have hb1:w1.heap[b]? = some (.cells #[v] 166 (0,0)):=(g1.block _ (jB hb) (row_not hb ho (by decide))).trans hb
 have hg2:=grown_cell w1 ⟨b,0,none⟩ v'
 have ht2:=tag_cell hb1 hB
 have hcv2:ColOwn B T.cols cv (w1.setCell ⟨b,0,none⟩ v'):=keeps_owns (B':=B) (T:=166) (by decide) w1 _ (some b) (keeps_owns (B':=B) (T:=75) (by decide) w w1 _ hcv (own_tag ho) g1) ht2 hg2
 have hp2:TabParts B C vs (w1.setCell ⟨b,0,none⟩ v'):=tabParts_keeps B B C vs 166 (by decide) (by decide) (by decide) w1 _ (some b) (tabParts_keeps B B C vs 75 (by decide) (by decide) (by decide) w w1 _ hp (own_tag ho) g1) ht2 hg2
 refine ⟨hB,v',vs ++ [(cv,.slice none 0 0)],by simp [hl],one_setCell hb1,?_,fun t h1 h2=>?_,fun s t h1 h2 hst g=>?_,hF.blk,hF1,fun t ht k hk=>?_,fun t ht k hk=>?_⟩
 · have e:(C ++ [T]).zip (vs ++ [(cv,.slice none 0 0)])=C.zip vs ++ [(T,cv,.slice none 0 0)]:=by rw [List.zip_append hl.symm];rfl
   rw [e,List.flatMap_append,List.length_append]
   simpa using keeps_owns (B':=B) (T:=166) (by decide) w1 _ (some b) o1 ht2 hg2
 · by_cases htl:t<C.length
   · simp only [List.getElem_append_left htl,List.getElem_append_left (show t<vs.length by omega)]
     exact hp2 t htl (by omega)
   · obtain rfl:t=C.length:=by rw [List.length_append] at h1;simp at h1;omega
     have e1:(C ++ [T])[C.length]=T:=by simp
     have e2:(vs ++ [(cv,Value.slice none 0 0)])[C.length]=(cv,.slice none 0 0):=by simp [<- hl]
     rw [e1,e2,hT]
     exact ⟨hcv2,ixOwn_nil _ _⟩
 · have hlen:(vs ++ [(cv,Value.slice none 0 0)]).length=vs.length+1:=by simp
   rw [hlen] at h1 h2
   rcases Nat.lt_or_eq_of_le (Nat.le_of_lt_succ h1) with hs|rfl
   · rcases Nat.lt_or_eq_of_le (Nat.le_of_lt_succ h2) with ht|rfl
     · simp only [List.getElem_append_left hs,List.getElem_append_left ht]
       exact ha s t hs ht hst g
     · simp only [List.getElem_append_left hs,List.getElem_append_right (jR _),Nat.sub_self,List.getElem_cons_zero]
       refine ⟨fun h1 h2=>hfr g h2 s hs h1,fun _ h=>?_⟩
       simp [Value.ownBlock] at h
   · have ht:t<vs.length:=by omega
     simp only [List.getElem_append_left ht,List.getElem_append_right (jR _),Nat.sub_self,List.getElem_cons_zero]
     refine ⟨fun h1=>hfr g h1 t ht,fun h=>?_⟩
     simp [Value.ownBlock] at h
 · by_cases htl:t<vs.length
   · simp only [List.getElem_append_left htl] at hk
     exact hF.col t htl k hk
   · obtain rfl:t=vs.length:=by rw [List.length_append] at ht;simp at ht;omega
     simp only [List.getElem_append_right (jR _),Nat.sub_self,List.getElem_cons_zero] at hk
     exact hF2 k hk
 · by_cases htl:t<vs.length
   · simp only [List.getElem_append_left htl] at hk
     exact hF.ix t htl k hk
   · obtain rfl:t=vs.length:=by rw [List.length_append] at ht;simp at ht;omega
     simp only [List.getElem_append_right (jR _),Nat.sub_self,List.getElem_cons_zero] at hk
     simp [Value.ownBlock] at hk
def CatPost (B:Nat) (X:Nat->Prop) (b:Nat) (w:World) (r:Int × List Tab) (e:Ending) (w':World):Prop:=e=.returned (.int .i64 r.1)/\Below B w w'/\(∀ k,X k->w'.heap[k]? = w.heap[k]?)/\CatAt B X b r.2 w'
theorem CatPost.err {B b:Nat} {X:Nat->Prop} {C:List Tab} {w w':World} {r:Int × List Tab} {k:Int} (hC:CatAt B X b C w) (hX:∀ k,X k->k<w.heap.size) (hr:r=(k,C)) (hB:B<=w.heap.size) (hb:Below w.heap.size w w'):CatPost B X b w r (.returned (.int .i64 k)) w':=by
 rw [hr]
 exact ⟨rfl,hb.mono hB,fun k hk=>hb.block k (hX k hk),hC.below hb⟩
theorem neg_any {p:Nat->Prop} {a:Option Addr} {c:Nat} {L:List Int} {w:World} (h:SlV intR p w (.slice a L.length c) L):Calls Tryz.prog 96 #[.slice a L.length c,.int .i64 (-1)] w fun e w'=>e=.returned (.bool (anyNeg L))/\w'=w:=by
 obtain ⟨_,_,hl,hr⟩:=h.row
 have key:L.contains (-1)=anyNeg L:=by
  unfold anyNeg
  rw [List.contains_eq_any_beq]
  congr 1
  funext x
  by_cases hx:x=-1
  · subst hx;rfl
  · have h2:¬ (-1:Int)=x:=fun e=>hx e.symm
    rw [decide_eq_false hx]
    simpa using h2
 rcases hr with rfl|⟨b,off,rfl,_,_,hc⟩
 · exact Tryz.slices_Contains_int_empty a c (-1) w
 · have:=Tryz.slices_Contains_int b off L.length c L (-1) w (jR _) (by omega) (fun j hj=>by
    obtain ⟨cs,h1,rfl⟩:=hc j hj
    have h2:=h1 0 (by simp [intR])
    simpa [intR,List.getD_eq_getElem?_getD,List.getElem?_eq_getElem hj] using h2)
   rw [List.take_length,key] at this
   exact this
def strAt (L:List ByteArray) (t:Nat):ByteArray:=(L[t]?).getD noStr
theorem strAt_eq {L:List ByteArray} {t:Nat} (h:t<L.length):strAt L t=L[t]:=by
 unfold strAt
 rw [List.getElem?_eq_getElem h];rfl
theorem cr1_any (s:ByteArray) (w:World):Calls Tryz.prog 164 #[.string s] w fun e w'=>e=.returned (.bool (!namedB s))/\Below w.heap.size w w':=by
 go_enter Tryz.func164,Tryz.ntmps164
 go_wp2_with fail
 refine (named_any s _).mono ?_
 rintro e w2 ⟨rfl,rfl⟩
 go_wp2_with fail
 go_ret
 exact ⟨rfl,Below.refl _ _⟩
theorem notnamed_any {p:Nat->Prop} {a:Option Addr} {c:Nat} {L:List ByteArray} {w:World} (h:SlV strF p w (.slice a L.length c) L) :
 Calls Tryz.prog 163 #[.slice a L.length c,.func (.func 164) #[] #[]] w fun e w'=>e=.returned (.bool (L.any fun s=>!namedB s))/\Below w.heap.size w w':=by
 obtain ⟨_,_,hl,hr⟩:=h.row
 rw [<- anyN_list (fun s=>!namedB s) L (fun t=>!namedB (strAt L t)) (fun t ht=>by rw [strAt_eq ht])]
 refine cf_str (cb:=#[]) (x0:=fun t=>.string (strAt L t)) (fun t=>!namedB (strAt L t)) (enters_of Tryz.func164 (by kernel_rfl) rfl) hl (fun h0=>?_) (fun t ht w1 b1=>cr1_any _ _)
 obtain ⟨b,off,rfl,_,hb⟩:=hr.addr (by intro e;rw [e] at h0;cases h0)
 exact ⟨b,off,rfl,hb,fun t ht=>by rw [strAt_eq ht];exact strF_at hr t ht⟩
def colAt (L:List (ByteArray × Int)) (t:Nat):ByteArray × Int:=(L[t]?).getD (noStr,0)
theorem colAt_eq {L:List (ByteArray × Int)} {t:Nat} (h:t<L.length):colAt L t=L[t]:=by
 unfold colAt
 rw [List.getElem?_eq_getElem h];rfl
def badKind (k:Int):Bool:=decide (k ≠ 1) && decide (k ≠ 2)
theorem cr2_any (s:ByteArray) (k:Int) (w:World):Calls Tryz.prog 166 #[.agg #[.string s,.int .i64 k]] w fun e w'=>e=.returned (.bool (badKind k))/\Below w.heap.size w w':=by
 have hb:Below w.heap.size w (w.alloc (Obj.cells #[.string s,.int .i64 k] 118)):=(b0R).alloc (jR _) _
 by_cases h1:k=1
 · subst h1
   go_enter Tryz.func166,Tryz.ntmps166
   go_wp2_with fail
   go_ret
   exact ⟨rfl,hb⟩
 · have HF:=hid (show badKind k=decide (k ≠ 2) by simp [badKind,h1])
   have h2:(k != 1)=true:=by simpa using h1
   go_enter Tryz.func166,Tryz.ntmps166
   go_wp2_with fail
   go_ret
   refine ⟨?_,hb⟩
   rw [HF.out]
   by_cases h3:k=2
   · subst h3;rfl
   · simp [h3]
theorem badkinds_any {p:Nat->Prop} {a:Option Addr} {c:Nat} {L:List (ByteArray × Int)} {w:World} (h:SlV colR p w (.slice a L.length c) L) :
 Calls Tryz.prog 165 #[.slice a L.length c,.func (.func 166) #[] #[]] w fun e w'=>e=.returned (.bool (L.any fun c=>decide (c.2 ≠ 1) && decide (c.2 ≠ 2)))/\Below w.heap.size w w':=by
 obtain ⟨_,_,hl,hr⟩:=h.row
 rw [<- anyN_list (fun c=>decide (c.2 ≠ 1) && decide (c.2 ≠ 2)) L (fun t=>badKind (colAt L t).2) (fun t ht=>by rw [colAt_eq ht];rfl)]
 refine cf_col (cb:=#[]) (x0:=fun t=>.string (colAt L t).1) (x1:=fun t=>.int .i64 (colAt L t).2) (fun t=>badKind (colAt L t).2) (enters_of Tryz.func166 (by kernel_rfl) rfl) hl (fun h0=>?_) (fun t ht w1 b1=>cr2_any _ _ _)
 obtain ⟨b,off,rfl,_,hb⟩:=hr.addr (by intro e;rw [e] at h0;cases h0)
 exact ⟨b,off,rfl,hb,fun t ht=>by rw [colAt_eq ht];exact hr.col t ht⟩
end
section
open Go.RowKit
def NewCols (B:Nat) (S:List (ByteArray × Int)) (u:Value) (w:World):Prop:=∃ ua uc,u=.slice ua S.length uc/\ColOwn B S (.slice ua S.length uc) w
theorem NewCols.below {B:Nat} {S:List (ByteArray × Int)} {u:Value} {w w':World} (h:NewCols B S u w) (hb:Below w.heap.size w w'):NewCols B S u w':=by
 obtain ⟨ua,uc,h1,h2⟩:=h
 exact ⟨ua,uc,h1,owns_below h2 hb⟩
def NewTab (B:Nat) (z:Int) (tb:ByteArray) (S:List (ByteArray × Int)) (u:Value) (w:World):Prop:=∃ ua uc,u=.agg #[.int .i64 z,.string tb,.slice ua S.length uc,.slice none 0 0]/\ColOwn B S (.slice ua S.length uc) w
theorem NewTab.below {B:Nat} {z:Int} {tb:ByteArray} {S:List (ByteArray × Int)} {u:Value} {w w':World} (h:NewTab B z tb S u w) (hb:Below w.heap.size w w'):NewTab B z tb S u w':=by
 obtain ⟨ua,uc,h1,h2⟩:=h
 exact ⟨ua,uc,h1,owns_below h2 hb⟩
def NewBlk (B:Nat) (z:Int) (tb:ByteArray) (S:List (ByteArray × Int)) (u:Value) (w:World):Prop:=∃ ua uc g,u=.slice (some ⟨g,0,none⟩) 1 1/\w.heap[g]? = some (.cells #[.int .i64 z,.string tb,.slice ua S.length uc,.slice none 0 0] 75 (0,0))/\ColOwn B S (.slice ua S.length uc) w
theorem NewBlk.below {B:Nat} {z:Int} {tb:ByteArray} {S:List (ByteArray × Int)} {u:Value} {w w':World} (h:NewBlk B z tb S u w) (hb:Below w.heap.size w w'):NewBlk B z tb S u w':=by
 obtain ⟨ua,uc,g,h1,h2,h3⟩:=h
 exact ⟨ua,uc,g,h1,(hb.block _ (jB h2)).trans h2,owns_below h3 hb⟩
theorem cr_named {C:List Tab} {s:Stmt} (h:namedB s.table=false):createE C s=1:=by unfold createE;simp [h]
theorem cr_few {C:List Tab} {s:Stmt} (h:s.cols.length<1):createE C s=1:=by unfold createE;simp [h]
theorem cr_many {C:List Tab} {s:Stmt} (h:6<s.cols.length):createE C s=1:=by unfold createE;simp [h]
theorem cr_names {C:List Tab} {s:Stmt} (h:(s.cols.map (·.1)).any (fun n=>!namedB n)=true):createE C s=1:=by
 rw [List.any_map] at h
 unfold createE
 rw [if_pos]
 rw [Bool.or_eq_true]
 right
 exact h
structure CrFine (s:Stmt):Prop where
 nm:namedB s.table=true
 l1:1<=s.cols.length
 l2:s.cols.length<=6
 nms:(s.cols.map (·.1)).any (fun n=>!namedB n)=false
theorem CrFine.go {C:List Tab} {s:Stmt} (h:CrFine s):createE C s=if s.cols.any (fun c=>decide (c.2 ≠ 1) && decide (c.2 ≠ 2)) then 52
 else if twiceB (s.cols.map (·.1)) || decide (0<=findT C s.table) then 51
 else if C.length=8 then 2 else 0:=by
 have e:s.cols.any (fun c=>!namedB c.1)=false:=by have:=h.nms;rw [List.any_map] at this;exact this
 unfold createE
 rw [h.nm,e,if_neg]
 have:=h.l1
 have:=h.l2
 simp only [Bool.not_true,Bool.false_or,Bool.or_false,Bool.or_eq_true,decide_eq_true_eq]
 omega
theorem CrFine.small {s:Stmt} (h:CrFine s):∀ x ∈ s.cols.map (·.1),x.size<=maxLen:=by
 intro x hx
 have:=(List.any_eq_false.1 h.nms) x hx
 simp [namedB] at this
 unfold maxLen
 omega
theorem create_any {p X:Nat->Prop} {B b:Nat} {C:List Tab} {s:Stmt} {sv:Value} {z:Int} {w:World} (hC:CatAt B X b C w) (hX:∀ k,X k->k<w.heap.size) (hS:TabsSmall C) (hs:StmtV p w sv s) (hcl:s.cols.length<=1000000) (hB:B<=w.heap.size) :
 Calls Tryz.prog 150 #[.pointer (some ⟨b,0,none⟩),sv,.int .i64 z] w fun e w'=>CatPost B X b w (createE C s,if createE C s=0 then createT C s else C) e w':=by
 obtain ⟨i0,hi,hz0,hz1,hz2⟩:=info_parts info_etab
 obtain ⟨a3,c3,a4,c4,a5,c5,a6,c6,a7,c7,a12,c12,rfl,hcol,_,_,_,_,_⟩:=hs
 obtain ⟨tb,htb⟩:∃ tb,tb=s.table:=⟨_,rfl⟩
 obtain ⟨S,hSS⟩:∃ S,S=s.cols:=⟨_,rfl⟩
 have HTB:=hid htb
 have HSS:=hid hSS
 rw [<- htb,<- hSS]
 rw [<- hSS] at hcol hcl
 clear htb hSS
 have HC:=hid hC
 obtain ⟨a,c,hcb,hsl⟩:=hC.sl hS
 have HCB:=hid hcb
 have HSL:=hid hsl
 have HERR:=hid (fun (k:Int) (hk:createE C s=k) (hk0:k ≠ 0) (w':World) (hb:Below w.heap.size w w')=>CatPost.err (r:=(createE C s,if createE C s=0 then createT C s else C)) hC hX (by rw [if_neg (by rw [hk];exact hk0),hk]) hB hb)
 have HP:=hid (fun (e:Ending) (w':World) (h:CatPost B X b w (createE C s,if createE C s=0 then createT C s else C) e w')=>h)
 obtain ⟨Pst,hPst⟩:∃ Pst,Pst=CatPost B X b w (createE C s,if createE C s=0 then createT C s else C):=⟨_,rfl⟩
 rw [<- hPst] at HERR HP ⊢
 have HPST:=hid hPst
 have hlC:C.length<=1000000:=hS.1
 have HX0:=hid hX
 clear hPst hC hS hcb hsl HP hX
 have HCOL0:=hid hcol
 clear hcol
 go_enter Tryz.func150,Tryz.ntmps150
 go_upto_region 1 with (fail)
 generalize hW:World.alloc _ _=W1
 have hA':allocs w [_]=W1:=hW
 have hq:W1.heap[w.heap.size]? = some (.cells #[.int .i64 s.kind,.string tb,.string s.name,.slice a3 S.length c3,.slice a4 s.names.length c4,.slice a5 s.row.length c5,.slice a6 s.sets.length c6,.slice a7 s.wher.length c7,.string s.join,.string s.left,.string s.right,.int .i64 s.agg,.slice a12 s.order.length c12,.int .i64 s.mode,.int .i64 s.n] 39 (0,0)):=allocs_get hA' 0 rfl
 have hb:=allocs_self hA'
 have B1:=hid hb
 have HQ:=hid hq
 have q3:=jC hq 3
 simp only [gT,gZ,gS] at q3
 have con:=pnames_any (HCOL0.out.below hb) hcl
 clear hA' hW hq hb
 go_wp2_with fail
 refine con.mono ?_
 rintro e w2 ⟨na,nc,rfl,b2,sn⟩
 have SN:=hid (show SlV strF (fun k=>W1.heap.size<=k) w2 (.slice na (S.map (·.1)).length nc) (S.map (·.1)) from by rw [List.length_map];exact sn)
 have B2:=hid (B1.out.trans (b2.mono B1.out.size))
 have hq2:=(b2.block _ (jB HQ.out)).trans HQ.out
 have HQ2:=hid hq2
 have k1:=jC hq2 1
 simp only [gT,gZ,gS] at k1
 clear con b2 sn q3 hq2
 go_upto_region 2 with (fail)
 go_wp2_with fail
 refine (named_any tb _).mono ?_
 rintro e w2' ⟨rfl,rfl⟩
 cases h1:namedB tb
 · have HX:=hid (HERR.out 1 (cr_named (by rw [<- HTB.out];exact h1)) (by decide) _ B2.out)
   go_wp2_with fail
   exact HX.out
 by_cases h2:S.length<1
 · have HX:=hid (HERR.out 1 (cr_few (by rw [<- HSS.out];exact h2)) (by decide) _ B2.out)
   have d2:decide (S.length<1)=true:=decide_eq_true h2
   go_wp2_with fail
   exact HX.out
 by_cases h3:6<S.length
 · have HX:=hid (HERR.out 1 (cr_many (by rw [<- HSS.out];exact h3)) (by decide) _ B2.out)
   have d3:decide (6<S.length)=true:=decide_eq_true h3
   go_wp2_with fail
   exact HX.out
 have d2:decide (S.length<1)=false:=decide_eq_false h2
 have d3:decide (6<S.length)=false:=decide_eq_false h3
 have d2':decide ((S.length:Int)<1)=false:=decide_eq_false (by omega)
 have d3':decide (6<(S.length:Int))=false:=decide_eq_false (by omega)
 have con:=notnamed_any SN.out
 rw [List.length_map] at con
 go_wp2_with fail
 refine con.mono ?_
 rintro e w3 ⟨rfl,b3⟩
 have B3:=hid (B2.out.trans (b3.mono B2.out.size))
 have SN3:=hid (SN.out.below b3)
 have hq3:=(b3.block _ (jB HQ2.out)).trans HQ2.out
 have HQ3:=hid hq3
 have k3:=jC hq3 3
 simp only [gT,gZ,gS] at k3
 clear con b3 hq3 k1 HQ2 SN
 cases h4:(S.map (·.1)).any (fun s=>!namedB s)
 case true =>
  have HX:=hid (HERR.out 1 (cr_names (by rw [<- HSS.out];exact h4)) (by decide) _ B3.out)
  go_wp2_with fail
  exact HX.out
 have FINE:=hid (show CrFine s from ⟨by rw [<- HTB.out];exact h1,by rw [<- HSS.out];omega,by rw [<- HSS.out];omega,by rw [<- HSS.out];exact h4⟩)
 have con:=badkinds_any (HCOL0.out.below B3.out)
 go_wp2_with fail
 refine con.mono ?_
 rintro e w4 ⟨rfl,b4⟩
 have B4:=hid (B3.out.trans (b4.mono B3.out.size))
 have SN4:=hid (SN3.out.below b4)
 have hq4:=(b4.block _ (jB HQ3.out)).trans HQ3.out
 have HQ4:=hid hq4
 clear con b4 hq4 k3 HQ3 SN3
 cases h5:S.any (fun c=>decide (c.2 ≠ 1) && decide (c.2 ≠ 2))
 case true =>
  have HX:=hid (HERR.out 52 (by rw [FINE.out.go,<- HSS.out,h5];rfl) (by decide) _ B4.out)
  go_wp2_with fail
  exact HX.out
 have con:=twice_any SN4.out (by rw [HSS.out];exact FINE.out.small) (by rw [List.length_map];exact hcl)
 rw [List.length_map] at con
 go_wp2_with fail
 refine con.mono ?_
 rintro e w5 ⟨rfl,b5⟩
 have B5:=hid (B4.out.trans (b5.mono B4.out.size))
 have hq5:=(b5.block _ (jB HQ4.out)).trans HQ4.out
 have HQ5:=hid hq5
 have k1:=jC hq5 1
 simp only [gT,gZ,gS] at k1
 have HB5:=cy B5.out HCB
 clear con b5 hq5 HQ4 SN4
 cases h6:twiceB (S.map (·.1))
 case true =>
  have HX:=hid (HERR.out 51 (by rw [FINE.out.go,<- HSS.out,h5,h6];rfl) (by decide) _ B5.out)
  go_wp2_with fail
  exact HX.out
 obtain ⟨n,hn⟩:∃ n,findT C tb=n:=⟨_,rfl⟩
 have con:=cfind_any HB5.out (HSL.out.below B5.out) tb
 rw [hn] at con
 have HN:=hid hn
 clear hn
 go_wp2_with fail
 refine con.mono ?_
 rintro e w6 ⟨rfl,b6⟩
 have B6:=hid (B5.out.trans (b6.mono B5.out.size))
 have hq6:=(b6.block _ (jB HQ5.out)).trans HQ5.out
 have hb6:=(b6.block _ (jB HB5.out)).trans HB5.out
 have HQ6:=hid hq6
 have HB6:=hid hb6
 have kb:=jC hb6 0
 simp only [gT,gZ,gS] at kb
 clear con b6 hq6 hb6 HQ5 HB5 k1
 by_cases h7:0<=n
 · have HX:=hid (HERR.out 51 (by rw [FINE.out.go,<- HSS.out,h5,h6,<- HTB.out,HN.out];simp [h7]) (by decide) _ B6.out)
   have d7:decide (0<=n)=true:=decide_eq_true h7
   go_wp2_with fail
   exact HX.out
 have d7:decide (0<=n)=false:=decide_eq_false h7
 by_cases h8:C.length=8
 · have HX:=hid (HERR.out 2 (by rw [FINE.out.go,<- HSS.out,h5,h6,<- HTB.out,HN.out];simp [h7,h8]) (by decide) _ B6.out)
   have d8:decide (C.length=8)=true:=decide_eq_true h8
   go_wp2_with fail
   exact HX.out
 have HOK:=hid (show createE C s=0 by rw [FINE.out.go,<- HSS.out,h5,h6,<- HTB.out,HN.out];simp [h7,h8])
 have d8:decide (C.length=8)=false:=decide_eq_false h8
 have HC6:=hid (HC.out.below B6.out)
 have HCOL:=hid (HCOL0.out.below B6.out)
 obtain ⟨W,hW⟩:∃ W,W=w6:=⟨_,rfl⟩
 rw [<- hW] at HQ6 HB6 B6 kb HC6 HCOL ⊢
 have HQ0:=HQ6
 have HB0:=HB6
 clear hW
 go_upto_region 10 with (fail)
 clear kb HQ6 HB6 HERR d2 d3 d2' d3' d7 d8
 apply wp_region_growt 17 [52,53,54,55,56,57,58,59,60,61,62,63,64,65,66,67,68]
  [fun _ u _=>u=.pointer (some ⟨b,0,none⟩),
   fun _ u _=>u=.pointer (some ⟨b,0,none⟩),
   fun _ u _=>u=.pointer (some ⟨b,0,none⟩),
   fun _ u _=>u=.slice a C.length c,
   fun _ u _=>u=.pointer (some ⟨b,0,none⟩),
   fun _ u _=>u=.pointer (some ⟨b,0,none⟩),
   fun _ u _=>u=.pointer (some ⟨b,0,none⟩),
   fun _ u _=>u=.slice a C.length c,
   fun _ u _=>u=.int .i64 (C.length:Int),
   fun _ u _=>u=.int .i64 ((C.length:Int)+1),
   fun _ u _=>u=.pointer (some ⟨w.heap.size,1,none⟩),
   fun _ u _=>u=.string tb,
   fun _ u _=>u=.pointer (some ⟨w.heap.size,3,none⟩),
   fun _ u _=>u=.slice a3 S.length c3,
   fun _ u w'=>NewCols W.heap.size S u w',
   fun _ u w'=>NewTab W.heap.size ((C.length:Int)+1) tb S u w',
   fun _ u w'=>NewBlk W.heap.size ((C.length:Int)+1) tb S u w']
  (Below W.heap.size W)
 case hF =>
  intro v
  simp only [setAll,List.foldl_cons,List.foldl_nil,Act.put,List.setIfInBounds_toArray,List.set_cons_succ,List.set_cons_zero]
  exact rfl
 case hm=>kernel_rfl
 case hB=>kernel_rfl
 case hsz=>kernel_rfl
 case hC=>exact fun w1 w2 h b=>h.trans (b.mono h.size)
 case hw=>exact Below.drew b0R
 case hS =>
  intro D hD v u
  simp only [List.mem_cons,List.not_mem_nil,or_false] at hD
  rcases hD with rfl|rfl|rfl|rfl|rfl|rfl|rfl|rfl|rfl|rfl|rfl|rfl|rfl|rfl|rfl|rfl|rfl
  · exact fun w1 w2 h _=>h
  · exact fun w1 w2 h _=>h
  · exact fun w1 w2 h _=>h
  · exact fun w1 w2 h _=>h
  · exact fun w1 w2 h _=>h
  · exact fun w1 w2 h _=>h
  · exact fun w1 w2 h _=>h
  · exact fun w1 w2 h _=>h
  · exact fun w1 w2 h _=>h
  · exact fun w1 w2 h _=>h
  · exact fun w1 w2 h _=>h
  · exact fun w1 w2 h _=>h
  · exact fun w1 w2 h _=>h
  · exact fun w1 w2 h _=>h
  · exact fun w1 w2 h hb=>h.below hb
  · exact fun w1 w2 h hb=>h.below hb
  · exact fun w1 w2 h hb=>h.below hb
 case hob =>
  simp only [List.take_succ_cons,List.take_zero]
  apply growt_cons
  · intro v w1 h1 hd
    clear hd
    clear h1
    go_wp2_with fail
    first|exact Below.refl _ _|exact ⟨Below.refl _ _,rfl⟩|exact ⟨rfl,Below.refl _ _⟩
  apply growt_cons
  · intro v w1 h1 hd
    have g52:v 52=.pointer (some ⟨b,0,none⟩):=hd 0 _ _ _ rfl rfl rfl rfl
    clear hd
    rw [g52]
    clear g52 h1
    go_wp2_with fail
    first|exact Below.refl _ _|exact ⟨Below.refl _ _,rfl⟩|exact ⟨rfl,Below.refl _ _⟩
  apply growt_cons
  · intro v w1 h1 hd
    have g53:v 53=.pointer (some ⟨b,0,none⟩):=hd 1 _ _ _ rfl rfl rfl rfl
    clear hd
    rw [g53]
    clear g53 h1
    go_wp2_with fail
    first|exact Below.refl _ _|exact ⟨Below.refl _ _,rfl⟩|exact ⟨rfl,Below.refl _ _⟩
  apply growt_cons
  · intro v w1 h1 hd
    have g54:v 54=.pointer (some ⟨b,0,none⟩):=hd 2 _ _ _ rfl rfl rfl rfl
    clear hd
    rw [g54]
    have cb:=jC ((h1.block _ (jB HB0.out)).trans HB0.out) 0
    simp only [gT,gZ,gS] at cb
    clear g54 h1
    go_wp2_with fail
    first|exact Below.refl _ _|exact ⟨Below.refl _ _,rfl⟩|exact ⟨rfl,Below.refl _ _⟩
  apply growt_cons
  · intro v w1 h1 hd
    clear hd
    clear h1
    go_wp2_with fail
    first|exact Below.refl _ _|exact ⟨Below.refl _ _,rfl⟩|exact ⟨rfl,Below.refl _ _⟩
  apply growt_cons
  · intro v w1 h1 hd
    have g56:v 56=.pointer (some ⟨b,0,none⟩):=hd 4 _ _ _ rfl rfl rfl rfl
    clear hd
    rw [g56]
    clear g56 h1
    go_wp2_with fail
    first|exact Below.refl _ _|exact ⟨Below.refl _ _,rfl⟩|exact ⟨rfl,Below.refl _ _⟩
  apply growt_cons
  · intro v w1 h1 hd
    have g57:v 57=.pointer (some ⟨b,0,none⟩):=hd 5 _ _ _ rfl rfl rfl rfl
    clear hd
    rw [g57]
    clear g57 h1
    go_wp2_with fail
    first|exact Below.refl _ _|exact ⟨Below.refl _ _,rfl⟩|exact ⟨rfl,Below.refl _ _⟩
  apply growt_cons
  · intro v w1 h1 hd
    have g58:v 58=.pointer (some ⟨b,0,none⟩):=hd 6 _ _ _ rfl rfl rfl rfl
    clear hd
    rw [g58]
    have cb:=jC ((h1.block _ (jB HB0.out)).trans HB0.out) 0
    simp only [gT,gZ,gS] at cb
    clear g58 h1
    go_wp2_with fail
    first|exact Below.refl _ _|exact ⟨Below.refl _ _,rfl⟩|exact ⟨rfl,Below.refl _ _⟩
  apply growt_cons
  · intro v w1 h1 hd
    have g59:v 59=.slice a C.length c:=hd 7 _ _ _ rfl rfl rfl rfl
    clear hd
    rw [g59]
    clear g59 h1
    go_wp2_with fail
    first|exact Below.refl _ _|exact ⟨Below.refl _ _,rfl⟩|exact ⟨rfl,Below.refl _ _⟩
  apply growt_cons
  · intro v w1 h1 hd
    have g60:v 60=.int .i64 (C.length:Int):=hd 8 _ _ _ rfl rfl rfl rfl
    clear hd
    rw [g60]
    clear g60 h1
    go_wp2_with fail
    first|exact Below.refl _ _|exact ⟨Below.refl _ _,rfl⟩|exact ⟨rfl,Below.refl _ _⟩
  apply growt_cons
  · intro v w1 h1 hd
    clear hd
    clear h1
    go_wp2_with fail
    first|exact Below.refl _ _|exact ⟨Below.refl _ _,rfl⟩|exact ⟨rfl,Below.refl _ _⟩
  apply growt_cons
  · intro v w1 h1 hd
    have g62:v 62=.pointer (some ⟨w.heap.size,1,none⟩):=hd 10 _ _ _ rfl rfl rfl rfl
    clear hd
    rw [g62]
    have cb:=jC ((h1.block _ (jB HQ0.out)).trans HQ0.out) 1
    simp only [gT,gZ,gS] at cb
    clear g62 h1
    go_wp2_with fail
    first|exact Below.refl _ _|exact ⟨Below.refl _ _,rfl⟩|exact ⟨rfl,Below.refl _ _⟩
  apply growt_cons
  · intro v w1 h1 hd
    clear hd
    clear h1
    go_wp2_with fail
    first|exact Below.refl _ _|exact ⟨Below.refl _ _,rfl⟩|exact ⟨rfl,Below.refl _ _⟩
  apply growt_cons
  · intro v w1 h1 hd
    have g64:v 64=.pointer (some ⟨w.heap.size,3,none⟩):=hd 12 _ _ _ rfl rfl rfl rfl
    clear hd
    rw [g64]
    have cb:=jC ((h1.block _ (jB HQ0.out)).trans HQ0.out) 3
    simp only [gT,gZ,gS] at cb
    clear g64 h1
    go_wp2_with fail
    first|exact Below.refl _ _|exact ⟨Below.refl _ _,rfl⟩|exact ⟨rfl,Below.refl _ _⟩
  apply growt_cons
  · intro v w1 h1 hd
    have g65:v 65=.slice a3 S.length c3:=hd 13 _ _ _ rfl rfl rfl rfl
    clear hd
    rw [g65]
    have H1W:=hid h1
    obtain ⟨_,_,_,hrow⟩:=(HCOL.out.below h1).row
    have con:=clone_cols (w:=w1) (c:=c3) (n:=S.length) (row_nil hrow) (row_raw hrow) (flat_len (enc:=colEnc) (sz:=2) (fun _=>rfl) S) (col_cells S) (by omega)
    clear g65 h1 hrow
    go_wp2_with fail
    refine con.mono ?_
    rintro e w2 ⟨v',rfl,o2,b2⟩
    obtain ⟨ua,uc,hv,_⟩:=owns_shape' o2
    subst hv
    have T2:=hid (show NewCols W.heap.size S (.slice ua S.length uc) w2 from ⟨ua,uc,rfl,owns_base o2 H1W.out.size⟩)
    have B2:=hid b2
    clear con o2 b2
    go_wp2_with fail
    first|exact ⟨B2.out,T2.out⟩|exact ⟨T2.out,B2.out⟩|exact B2.out
  apply growt_cons
  · intro v w1 h1 hd
    have g61:v 61=.int .i64 ((C.length:Int)+1):=hd 9 _ _ _ rfl rfl rfl rfl
    have g63:v 63=.string tb:=hd 11 _ _ _ rfl rfl rfl rfl
    obtain ⟨ua,uc,g66,o66⟩:NewCols W.heap.size S (v 66) w1:=hd 14 _ _ _ rfl rfl rfl rfl
    clear hd
    rw [g61,g63,g66]
    have O:=hid o66
    clear g61 g63 g66 o66 h1
    go_wp2_with fail
    first|exact ⟨Below.refl _ _,ua,uc,rfl,O.out⟩|exact ⟨⟨ua,uc,rfl,O.out⟩,Below.refl _ _⟩
  apply growt_cons
  · intro v w1 h1 hd
    obtain ⟨ua,uc,g67,o67⟩:NewTab W.heap.size ((C.length:Int)+1) tb S (v 67) w1:=hd 15 _ _ _ rfl rfl rfl rfl
    clear hd
    rw [g67]
    have O:=hid o67
    clear g67 o67 h1
    go_wp2_with fail
    have hb3:Below w1.heap.size w1 (w1.alloc (.cells #[.int .i64 ((C.length:Int)+1),.string tb,.slice ua S.length uc,.slice none 0 0] 75)):=(b0R).alloc (jR _) _
    first|exact ⟨hb3,ua,uc,w1.heap.size,rfl,heap_alloc_new _ _,owns_below O.out hb3⟩|exact ⟨⟨ua,uc,w1.heap.size,rfl,heap_alloc_new _ _,owns_below O.out hb3⟩,hb3⟩
  exact growt_nil
 case hend =>
  intro v w7 h1 hd
  obtain ⟨ua,uc,g,g68,hg,o68⟩:NewBlk W.heap.size ((C.length:Int)+1) tb S (v 68) w7:=hd 16 _ _ _ rfl rfl rfl
  have g55:v 55=.slice a C.length c:=hd 3 _ _ _ rfl rfl rfl
  clear hd
  rw [g55,g68]
  have B7:=hid (B6.out.trans (h1.mono B6.out.size))
  have H17:=hid h1
  have HB7:=cy h1 HB0
  have HG:=hid hg
  have O7:=hid o68
  clear h1 hg o68 g55 g68
  generalize v 52=y1,v 53=y2,v 54=y3,v 56=y4,v 57=y5,v 58=y6,v 59=y7,v 60=y8,v 61=y9,v 62=y10,v 63=y11,v 64=y12,v 65=y13,v 66=y14,v 67=y15
  obtain ⟨hBb,tv,vs,hl,hvb,hvo,hvp,hva,hvf⟩:=HC6.out
  obtain rfl:tv=.slice a C.length c:=by
   rw [HB0.out] at hvb
   simp at hvb
   exact hvb.symm
  have hs7:w.heap.size<=w7.heap.size:=B7.out.size
  have VO:=hid (owns_below hvo H17.out)
  have VP:=hid hvp
  have VA:=hid hva
  have VF:=hid hvf
  have HL:=hid hl
  clear hvb hvo hvp hva hl hvf
  simp only [List.drop_succ_cons,List.drop_zero]
  refine wpList_append_own_at _ rfl _ _ 24 rfl B 75 i0 _ 4 72 Tryz.underlying24 hi hz0 hz1 hz2 rfl (by decide) (.slice a C.length c) C.length _ rfl VO.out ⟨g,0,none⟩ 1 1 [.int .i64 ((C.length:Int)+1),.string tb,.slice ua S.length uc,.slice none 0 0] rfl rfl (fun j u hj=>by rw [addr_add,jC HG.out];simpa using hj) (fun u hu=>by simp only [List.mem_cons,List.not_mem_nil,or_false] at hu;rcases hu with rfl|rfl|rfl|rfl <;> rfl) (by unfold maxLen;omega) (by omega) (by omega) ?_
  intro v' w8 o1 g1 hx1 at1
  clear hx1
  have AT1:=hid at1
  clear at1
  obtain ⟨va,vc,hv',_⟩:=owns_shape' o1
  subst hv'
  have N8:=hid (show _/\_ from ⟨o1,g1⟩)
  have hb8:=(g1.block _ (jB HB7.out) (row_not HB7.out VO.out (by decide))).trans HB7.out
  have k8:=jC hb8 0
  have f8:=free_of hb8 0
  simp only [gT,gZ,gS] at k8
  clear o1 g1 hb8
  go_wp2_with fail
  rw [HPST.out,HOK.out,if_pos rfl]
  have e:createT C s=C ++ [⟨C.length+1,tb,S,[]⟩]:=by unfold createT;rw [<- HTB.out,<- HSS.out]
  rw [e]
  have hsW:=B6.out.size
  refine ⟨rfl,?_,fun k hk=>?_,?_⟩
  · exact ((B7.out.mono hB).grown N8.out.2 (by omega) (fun k hk=>(VO.out.lt k hk).1)).setCell (p:=⟨b,0,none⟩) hBb _
  · have hkw:=HX0.out k hk
    have e1:k ≠ b:=fun e=>VF.out.blk (e ▸ hk)
    rw [heap_setCell_other _ _ _ _ (by exact e1),N8.out.2.block k (by omega) (fun e=>VF.out.tab k e.symm hk),B7.out.block k hkw]
  · refine catAt_push (T:=⟨C.length+1,tb,S,[]⟩) hBb HL.out HB7.out VO.out (VP.out.below H17.out) VA.out VF.out (fun k hk hx=>?_) (fun k hk hx=>?_) (owns_base O7.out (by omega)) (fun g hg t ht=>?_) rfl N8.out.1 N8.out.2
    · rcases AT1.out with e|e
      · exact VF.out.tab k (e ▸ hk) hx
      · rw [e] at hk
        have:=HX0.out k hx
        simp only [Option.some.injEq] at hk
        omega
    · have h1:=(World.ownsRow.lt O7.out k hk).1
      have:=HX0.out k hx
      omega
    intro e
    have h1:=(World.ownsRow.lt O7.out g hg).1
    have h2:=(World.ownsRow.lt (VP.out t (by have:=HL.out;omega) ht).1 g e).2
    omega
end
end Go.Proofs.YtgemihkcihigpaaGreatDoor
