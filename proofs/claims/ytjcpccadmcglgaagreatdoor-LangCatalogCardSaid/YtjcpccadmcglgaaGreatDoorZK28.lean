/- An element more in one of the statement's lists, or another list in its place. -/
import Derived.Test.YtjcpccadmcglgaaGreatDoorZK27
import Derived.Test.YtjcpccadmcglgaaGreatDoorZK10
set_option linter.unusedVariables false
set_option linter.unusedSimpArgs false
set_option maxRecDepth 100000
set_option maxHeartbeats 64000000
namespace Go.Proofs.YtjcpccadmcglgaaGreatDoor
section
open Go.RowKit
theorem Own1.apart {X:Nat->Prop} {w w':World} {e e':TypeId} {sz sz':Nat} {v v':Value} {n n':Nat} {xs xs':List Value} (h:Own1 X w e sz v n xs) (h2:w.ownsRow 0 e' sz' v' n' xs') (he:e ≠ e') (g:w.grownBy w' v'.ownBlock):Own1 X w' e sz v n xs:=by
 refine ⟨h.1.kept g ?_,h.2⟩
 cases hc:v.ownBlock with
 | none=>exact Or.inl rfl
 | some q =>
  right
  intro hq
  rcases h.1.2 with ⟨rfl,_⟩|⟨q1,_,_,rfl,_,hb1,_⟩
  · simp [Value.ownBlock] at hc
  · rcases h2.2 with ⟨rfl,_⟩|⟨q2,_,_,rfl,_,hb2,_⟩
    · simp [Value.ownBlock] at hq
    · simp only [Value.ownBlock,Option.some.injEq] at hc hq
      subst hc
      subst hq
      rw [hb1] at hb2
      simp at hb2
      exact he (by first|exact hb2.2.1|exact hb2.2|exact hb2)
theorem setCell_id {w:World} {q j:Nat} {cs:Array Value} {T:TypeId} {v:Value} (h:w.heap[q]? = some (.cells cs T (0,0))) (hv:cs[j]? = some v):w.setCell ⟨q,j,none⟩ v=w:=by
 have e:(w.setCell ⟨q,j,none⟩ v).heap=w.heap:=by
  apply Array.ext_getElem?
  intro k
  by_cases hk:k=q
  · subst hk
    rw [heap_setCell_same w k j cs T v h,h]
    congr 2
    apply Array.ext_getElem?
    intro i
    rw [Array.getElem?_setIfInBounds]
    split
    · rename_i hi
      subst hi
      rw [hv]
      split
      · rfl
      · rename_i hs
        rw [Array.getElem?_eq_none (by omega)] at hv
        cases hv
    · rfl
  · exact heap_setCell_other _ _ _ _ (by exact hk)
 cases w
 simp only [World.setCell] at e ⊢
 rw [e]
theorem Own1.fresh {X:Nat->Prop} {w w':World} {e:TypeId} {sz:Nat} {v v':Value} {n:Nat} {xs:List Value} (hX:∀ k,X k->k<w.heap.size) (hv:∀ g,v.ownBlock=some g->¬ X g) (o:w'.ownsRow 0 e sz v' n xs) (h:v'.ownBlock=v.ownBlock \/ v'.ownBlock=some w.heap.size):Own1 X w' e sz v' n xs:=by
 refine ⟨o,fun g hg hx=>?_⟩
 rcases h with h|h
 · exact hv g (h.symm.trans hg) hx
 · rw [h] at hg
   simp only [Option.some.injEq] at hg
   have:=hX g hx
   omega
theorem PAt.add_cols {Y:Nat->Prop} {b en:Nat} {S:PS} {w w5:World} {a:Option Addr} {c:Nat} {L:Lists} {v':Value} {x:ByteArray × Int} (h:PAt Y b en S w) (hb:w.heap[b]? = some (.cells (boxC (.slice a S.l.length c) en L S.s) 65 (0,0)))
 (hs:SlV tokR (fun k=>k<b) w (.slice a S.l.length c) S.l) (hl:LsAt Y w L S.s) (o1:w5.ownsRow 0 62 2 v' (S.s.cols.length+1) (S.s.cols.flatMap colEnc ++ colEnc x)) (g1:w.grownBy w5 L.cols.ownBlock) (at1:v'.ownBlock=L.cols.ownBlock \/ v'.ownBlock=some w.heap.size) :
 PAt Y b en { S with s:={ S.s with cols:=S.s.cols ++ [x] } } (w5.setCell ⟨b,5,none⟩ v')/\Kept Y w (w5.setCell ⟨b,5,none⟩ v'):=by
 have hr:∀ q,L.cols.ownBlock=some q->¬ Y q:=hl.cols.2
 have nb:some b ≠ L.cols.ownBlock:=row_not hb hl.cols.1 (by decide)
 have hb5:=(g1.block b (jB hb) nb).trans hb
 have g6:=grown_set w5 b 5 v'
 have old:∀ k,k<b->k<w.heap.size->(w5.setCell ⟨b,5,none⟩ v').heap[k]? = w.heap[k]? := fun k hk hl' =>
  (g6.block k (jL hl' g1.size) (by simp;omega)).trans (g1.block k hl' fun e=>hr k e.symm (h.old k hk))
 have hY:=Own1.fresh h.lt hr o1 at1
 have k6:∀ {e:TypeId} {s:Nat} {v:Value} {n:Nat} {xs:List Value},65 ≠ e->Own1 Y w5 e s v n xs->Own1 Y (w5.setCell ⟨b,5,none⟩ v') e s v n xs:=fun hT ho=>ho.kept hb5 hT g6
 refine ⟨⟨h.env.same fun k hk hl'=>old k (h.glob k hk) hl',h.glob,h.old,fun k hk=>jL (h.lt k hk) (Nat.le_trans g1.size g6.size),h.nb,⟨_,{ L with cols:=v' },(heap_setCell_same w5 b 5 _ _ v' hb5).trans rfl,hs.keep fun k hk hl'=>old k hk hl',?_⟩,h.tok⟩,?_⟩
 · refine { cols:=?_,names:=k6 (by decide) (hl.names.apart hl.cols.1 (by decide) g1),row:=k6 (by decide) (hl.row.apart hl.cols.1 (by decide) g1),sets:=k6 (by decide) (hl.sets.apart hl.cols.1 (by decide) g1),wher:=k6 (by decide) (hl.wher.apart hl.cols.1 (by decide) g1),order:=k6 (by decide) (hl.order.apart hl.cols.1 (by decide) g1) }
   have e1:(S.s.cols ++ [x]).flatMap colEnc=S.s.cols.flatMap colEnc ++ colEnc x:=by simp
   rw [e1,List.length_append]
   exact k6 (by decide) hY
 · exact ⟨g6.os.trans g1.os,g6.tape.trans g1.tape,g6.output.trans g1.output,Nat.le_trans g1.size g6.size,fun k hk hl'=>(g6.block k (jL hl' g1.size) (by simp;intro e;exact h.nb (e ▸ hk))).trans (g1.block k hl' fun e=>hr k e.symm hk)⟩
theorem PAt.add_row {Y:Nat->Prop} {b en:Nat} {S:PS} {w w5:World} {a:Option Addr} {c:Nat} {L:Lists} {v':Value} {x:Val} (h:PAt Y b en S w) (hb:w.heap[b]? = some (.cells (boxC (.slice a S.l.length c) en L S.s) 65 (0,0)))
 (hs:SlV tokR (fun k=>k<b) w (.slice a S.l.length c) S.l) (hl:LsAt Y w L S.s) (o1:w5.ownsRow 0 50 3 v' (S.s.row.length+1) (S.s.row.flatMap valEnc ++ valEnc x)) (g1:w.grownBy w5 L.row.ownBlock) (at1:v'.ownBlock=L.row.ownBlock \/ v'.ownBlock=some w.heap.size) :
 PAt Y b en { S with s:={ S.s with row:=S.s.row ++ [x] } } (w5.setCell ⟨b,7,none⟩ v')/\Kept Y w (w5.setCell ⟨b,7,none⟩ v'):=by
 have hr:∀ q,L.row.ownBlock=some q->¬ Y q:=hl.row.2
 have nb:some b ≠ L.row.ownBlock:=row_not hb hl.row.1 (by decide)
 have hb5:=(g1.block b (jB hb) nb).trans hb
 have g6:=grown_set w5 b 7 v'
 have old:∀ k,k<b->k<w.heap.size->(w5.setCell ⟨b,7,none⟩ v').heap[k]? = w.heap[k]? := fun k hk hl' =>
  (g6.block k (jL hl' g1.size) (by simp;omega)).trans (g1.block k hl' fun e=>hr k e.symm (h.old k hk))
 have hY:=Own1.fresh h.lt hr o1 at1
 have k6:∀ {e:TypeId} {s:Nat} {v:Value} {n:Nat} {xs:List Value},65 ≠ e->Own1 Y w5 e s v n xs->Own1 Y (w5.setCell ⟨b,7,none⟩ v') e s v n xs:=fun hT ho=>ho.kept hb5 hT g6
 refine ⟨⟨h.env.same fun k hk hl'=>old k (h.glob k hk) hl',h.glob,h.old,fun k hk=>jL (h.lt k hk) (Nat.le_trans g1.size g6.size),h.nb,⟨_,{ L with row:=v' },(heap_setCell_same w5 b 7 _ _ v' hb5).trans rfl,hs.keep fun k hk hl'=>old k hk hl',?_⟩,h.tok⟩,?_⟩
 · refine { row:=?_,cols:=k6 (by decide) (hl.cols.apart hl.row.1 (by decide) g1),names:=k6 (by decide) (hl.names.apart hl.row.1 (by decide) g1),sets:=k6 (by decide) (hl.sets.apart hl.row.1 (by decide) g1),wher:=k6 (by decide) (hl.wher.apart hl.row.1 (by decide) g1),order:=k6 (by decide) (hl.order.apart hl.row.1 (by decide) g1) }
   have e1:(S.s.row ++ [x]).flatMap valEnc=S.s.row.flatMap valEnc ++ valEnc x:=by simp
   rw [e1,List.length_append]
   exact k6 (by decide) hY
 · exact ⟨g6.os.trans g1.os,g6.tape.trans g1.tape,g6.output.trans g1.output,Nat.le_trans g1.size g6.size,fun k hk hl'=>(g6.block k (jL hl' g1.size) (by simp;intro e;exact h.nb (e ▸ hk))).trans (g1.block k hl' fun e=>hr k e.symm hk)⟩
theorem PAt.add_sets {Y:Nat->Prop} {b en:Nat} {S:PS} {w w5:World} {a:Option Addr} {c:Nat} {L:Lists} {v':Value} {x:SetV} (h:PAt Y b en S w) (hb:w.heap[b]? = some (.cells (boxC (.slice a S.l.length c) en L S.s) 65 (0,0)))
 (hs:SlV tokR (fun k=>k<b) w (.slice a S.l.length c) S.l) (hl:LsAt Y w L S.s) (o1:w5.ownsRow 0 54 5 v' (S.s.sets.length+1) (S.s.sets.flatMap setEnc ++ setEnc x)) (g1:w.grownBy w5 L.sets.ownBlock) (at1:v'.ownBlock=L.sets.ownBlock \/ v'.ownBlock=some w.heap.size) :
 PAt Y b en { S with s:={ S.s with sets:=S.s.sets ++ [x] } } (w5.setCell ⟨b,8,none⟩ v')/\Kept Y w (w5.setCell ⟨b,8,none⟩ v'):=by
 have hr:∀ q,L.sets.ownBlock=some q->¬ Y q:=hl.sets.2
 have nb:some b ≠ L.sets.ownBlock:=row_not hb hl.sets.1 (by decide)
 have hb5:=(g1.block b (jB hb) nb).trans hb
 have g6:=grown_set w5 b 8 v'
 have old:∀ k,k<b->k<w.heap.size->(w5.setCell ⟨b,8,none⟩ v').heap[k]? = w.heap[k]? := fun k hk hl' =>
  (g6.block k (jL hl' g1.size) (by simp;omega)).trans (g1.block k hl' fun e=>hr k e.symm (h.old k hk))
 have hY:=Own1.fresh h.lt hr o1 at1
 have k6:∀ {e:TypeId} {s:Nat} {v:Value} {n:Nat} {xs:List Value},65 ≠ e->Own1 Y w5 e s v n xs->Own1 Y (w5.setCell ⟨b,8,none⟩ v') e s v n xs:=fun hT ho=>ho.kept hb5 hT g6
 refine ⟨⟨h.env.same fun k hk hl'=>old k (h.glob k hk) hl',h.glob,h.old,fun k hk=>jL (h.lt k hk) (Nat.le_trans g1.size g6.size),h.nb,⟨_,{ L with sets:=v' },(heap_setCell_same w5 b 8 _ _ v' hb5).trans rfl,hs.keep fun k hk hl'=>old k hk hl',?_⟩,h.tok⟩,?_⟩
 · refine { sets:=?_,cols:=k6 (by decide) (hl.cols.apart hl.sets.1 (by decide) g1),names:=k6 (by decide) (hl.names.apart hl.sets.1 (by decide) g1),row:=k6 (by decide) (hl.row.apart hl.sets.1 (by decide) g1),wher:=k6 (by decide) (hl.wher.apart hl.sets.1 (by decide) g1),order:=k6 (by decide) (hl.order.apart hl.sets.1 (by decide) g1) }
   have e1:(S.s.sets ++ [x]).flatMap setEnc=S.s.sets.flatMap setEnc ++ setEnc x:=by simp
   rw [e1,List.length_append]
   exact k6 (by decide) hY
 · exact ⟨g6.os.trans g1.os,g6.tape.trans g1.tape,g6.output.trans g1.output,Nat.le_trans g1.size g6.size,fun k hk hl'=>(g6.block k (jL hl' g1.size) (by simp;intro e;exact h.nb (e ▸ hk))).trans (g1.block k hl' fun e=>hr k e.symm hk)⟩
theorem PAt.add_wher {Y:Nat->Prop} {b en:Nat} {S:PS} {w w5:World} {a:Option Addr} {c:Nat} {L:Lists} {v':Value} {x:Cond} (h:PAt Y b en S w) (hb:w.heap[b]? = some (.cells (boxC (.slice a S.l.length c) en L S.s) 65 (0,0)))
 (hs:SlV tokR (fun k=>k<b) w (.slice a S.l.length c) S.l) (hl:LsAt Y w L S.s) (o1:w5.ownsRow 0 52 5 v' (S.s.wher.length+1) (S.s.wher.flatMap condEnc ++ condEnc x)) (g1:w.grownBy w5 L.wher.ownBlock) (at1:v'.ownBlock=L.wher.ownBlock \/ v'.ownBlock=some w.heap.size) :
 PAt Y b en { S with s:={ S.s with wher:=S.s.wher ++ [x] } } (w5.setCell ⟨b,9,none⟩ v')/\Kept Y w (w5.setCell ⟨b,9,none⟩ v'):=by
 have hr:∀ q,L.wher.ownBlock=some q->¬ Y q:=hl.wher.2
 have nb:some b ≠ L.wher.ownBlock:=row_not hb hl.wher.1 (by decide)
 have hb5:=(g1.block b (jB hb) nb).trans hb
 have g6:=grown_set w5 b 9 v'
 have old:∀ k,k<b->k<w.heap.size->(w5.setCell ⟨b,9,none⟩ v').heap[k]? = w.heap[k]? := fun k hk hl' =>
  (g6.block k (jL hl' g1.size) (by simp;omega)).trans (g1.block k hl' fun e=>hr k e.symm (h.old k hk))
 have hY:=Own1.fresh h.lt hr o1 at1
 have k6:∀ {e:TypeId} {s:Nat} {v:Value} {n:Nat} {xs:List Value},65 ≠ e->Own1 Y w5 e s v n xs->Own1 Y (w5.setCell ⟨b,9,none⟩ v') e s v n xs:=fun hT ho=>ho.kept hb5 hT g6
 refine ⟨⟨h.env.same fun k hk hl'=>old k (h.glob k hk) hl',h.glob,h.old,fun k hk=>jL (h.lt k hk) (Nat.le_trans g1.size g6.size),h.nb,⟨_,{ L with wher:=v' },(heap_setCell_same w5 b 9 _ _ v' hb5).trans rfl,hs.keep fun k hk hl'=>old k hk hl',?_⟩,h.tok⟩,?_⟩
 · refine { wher:=?_,cols:=k6 (by decide) (hl.cols.apart hl.wher.1 (by decide) g1),names:=k6 (by decide) (hl.names.apart hl.wher.1 (by decide) g1),row:=k6 (by decide) (hl.row.apart hl.wher.1 (by decide) g1),sets:=k6 (by decide) (hl.sets.apart hl.wher.1 (by decide) g1),order:=k6 (by decide) (hl.order.apart hl.wher.1 (by decide) g1) }
   have e1:(S.s.wher ++ [x]).flatMap condEnc=S.s.wher.flatMap condEnc ++ condEnc x:=by simp
   rw [e1,List.length_append]
   exact k6 (by decide) hY
 · exact ⟨g6.os.trans g1.os,g6.tape.trans g1.tape,g6.output.trans g1.output,Nat.le_trans g1.size g6.size,fun k hk hl'=>(g6.block k (jL hl' g1.size) (by simp;intro e;exact h.nb (e ▸ hk))).trans (g1.block k hl' fun e=>hr k e.symm hk)⟩
theorem PAt.put_names {Y:Nat->Prop} {b en:Nat} {S:PS} {w:World} {v':Value} {l:List ByteArray} {B:Nat} (h:PAt Y b en S w) (o1:w.ownsRow B 9 1 v' l.length (l.flatMap strEnc)) (hv:∀ g,v'.ownBlock=some g->¬ Y g) :
 PAt Y b en { S with s:={ S.s with names:=l } } (w.setCell ⟨b,6,none⟩ v')/\w.grownBy (w.setCell ⟨b,6,none⟩ v') (some b):=by
 obtain ⟨tv,L,hb,hs,hl⟩:=h.box
 have g6:=grown_set w b 6 v'
 have hY:Own1 Y w 9 1 v' l.length (l.flatMap strEnc):=⟨owns_base o1 (Nat.zero_le _),hv⟩
 have k6:∀ {e:TypeId} {s:Nat} {v:Value} {n:Nat} {xs:List Value},65 ≠ e->Own1 Y w e s v n xs->Own1 Y (w.setCell ⟨b,6,none⟩ v') e s v n xs:=fun hT ho=>ho.kept hb hT g6
 have old:∀ k,k<b->k<w.heap.size->(w.setCell ⟨b,6,none⟩ v').heap[k]? = w.heap[k]? := fun k hk hl'=>g6.block k hl' (by simp;omega)
 exact ⟨⟨h.env.same fun k hk hl'=>old k (h.glob k hk) hl',h.glob,h.old,fun k hk=>jL (h.lt k hk) g6.size,h.nb,⟨_,{ L with names:=v' },(heap_setCell_same w b 6 _ _ v' hb).trans rfl,hs.keep fun k hk hl'=>old k hk hl',{ names:=k6 (by decide) hY,cols:=k6 (by decide) hl.cols,row:=k6 (by decide) hl.row,sets:=k6 (by decide) hl.sets,wher:=k6 (by decide) hl.wher,order:=k6 (by decide) hl.order }⟩,h.tok⟩,g6⟩
theorem PAt.put_order {Y:Nat->Prop} {b en:Nat} {S:PS} {w:World} {v':Value} {l:List ByteArray} {B:Nat} (h:PAt Y b en S w) (o1:w.ownsRow B 9 1 v' l.length (l.flatMap strEnc)) (hv:∀ g,v'.ownBlock=some g->¬ Y g) :
 PAt Y b en { S with s:={ S.s with order:=l } } (w.setCell ⟨b,14,none⟩ v')/\w.grownBy (w.setCell ⟨b,14,none⟩ v') (some b):=by
 obtain ⟨tv,L,hb,hs,hl⟩:=h.box
 have g6:=grown_set w b 14 v'
 have hY:Own1 Y w 9 1 v' l.length (l.flatMap strEnc):=⟨owns_base o1 (Nat.zero_le _),hv⟩
 have k6:∀ {e:TypeId} {s:Nat} {v:Value} {n:Nat} {xs:List Value},65 ≠ e->Own1 Y w e s v n xs->Own1 Y (w.setCell ⟨b,14,none⟩ v') e s v n xs:=fun hT ho=>ho.kept hb hT g6
 have old:∀ k,k<b->k<w.heap.size->(w.setCell ⟨b,14,none⟩ v').heap[k]? = w.heap[k]? := fun k hk hl'=>g6.block k hl' (by simp;omega)
 exact ⟨⟨h.env.same fun k hk hl'=>old k (h.glob k hk) hl',h.glob,h.old,fun k hk=>jL (h.lt k hk) g6.size,h.nb,⟨_,{ L with order:=v' },(heap_setCell_same w b 14 _ _ v' hb).trans rfl,hs.keep fun k hk hl'=>old k hk hl',{ order:=k6 (by decide) hY,cols:=k6 (by decide) hl.cols,names:=k6 (by decide) hl.names,row:=k6 (by decide) hl.row,sets:=k6 (by decide) hl.sets,wher:=k6 (by decide) hl.wher }⟩,h.tok⟩,g6⟩
end
open Go.Lib (hid)
section
open Go.RowKit
structure SJ (X:Nat->Prop) (b en qp:Nat) (w0:World) (len:Stmt->Nat) (i:Nat) (S:PS) (w:World):Prop where
 p:w.heap[qp]? = some (.cells #[.pointer (some ⟨b,0,none⟩)] 63 (0,0))
 pat:∃ Y,PAt Y b en S w/\(∀ k,X k->Y k)/\Y qp
 k:Kept X w0 w
 len:len S.s<=i
theorem Kept.leaf {X:Nat->Prop} {w0 w w':World} {b:Nat} (h:Kept X w0 w) (g:w.grownBy w' (some b)) (hb:¬ X b):Kept X w0 w':=h.trans (grown_kept g fun k e=>by cases e;exact hb)
def SPost (X:Nat->Prop) (b en qp:Nat) (w0:World) (len:Stmt->Nat) (i:Nat) (r:Except PErr (Unit × PS)) (e:Ending) (w':World):Prop :=
 (∃ S',r=.ok ((),S')/\e=.returned (.tuple #[])/\SJ X b en qp w0 len (i+1) S' w') \/ ∃ er,r=.error er/\e=trouble er/\Kept X w0 w'
theorem must_one {en:Nat} {x:ByteArray} {S:PS}:mustM en [x] S=if isB [x] S.l then .ok ((),{ S with l:=S.l.tail }) else .error ((nowT en S).pos,60):=rfl
theorem must_state {en:Nat}:∀ {xs:List ByteArray} {S S':PS},mustM en xs S=.ok ((),S')->S'.s=S.s/\S'.out=S.out
 | [],S,S',h=>by cases h;exact ⟨rfl,rfl⟩
 | x :: xs,S,S',h=>by
  simp only [mustM] at h
  split at h
  · have:=must_state (xs:=xs) h
    exact this
  · cases h
def TJ (b qp j:Nat) (v:Value) (w':World):Prop:=w'.heap[qp]? = some (.cells #[.pointer (some ⟨b,0,none⟩)] 63 (0,0))/\w'.cell? ⟨b,j,none⟩=some v/\w'.frozen? ⟨b,j,none⟩=false
theorem TJ.below {b qp j:Nat} {v:Value} {w w':World} (h:TJ b qp j v w) (hb:Below w.heap.size w w'):TJ b qp j v w':=by
 have hl:b<w.heap.size:=World.block_lt_of_cell? _ _ h.2.1
 exact ⟨(hb.block _ (jB h.1)).trans h.1,(World.cell?_of_block (w:=w) (hb.block b hl)).trans h.2.1,(World.frozen?_of_block (w:=w) (hb.block b hl)).trans h.2.2⟩
def T6cols (ec:Array Value) (W:World) (u:Value) (w':World):Prop:=∃ g,u=.slice (some ⟨g,0,none⟩) 1 1/\w'.heap[g]? = some (.cells ec 62 (0,0))/\Below W.heap.size W w'
def T7cols (b qp j n:Nat) (v:Value) (xs:List Value) (W:World) (u:Value) (w':World):Prop :=
 ∃ wa,Below W.heap.size W wa/\w'.ownsRow 0 62 2 u n xs/\wa.grownBy w' v.ownBlock/\(u.ownBlock=v.ownBlock \/ u.ownBlock=some wa.heap.size)/\TJ b qp j v w'
theorem col1_any {X:Nat->Prop} {b en qp:Nat} {w0:World} {i:Nat} {S:PS} {w:World} (hi:i<=1000) (h:SJ X b en qp w0 (fun s=>s.cols.length) i S w) (hb0:b<qp) :
 Calls Tryz.prog 83 #[.pointer (some ⟨qp,0,none⟩)] w fun e w'=>SPost X b en qp w0 (fun s=>s.cols.length) i (colOne en S) e w':=by
 obtain ⟨hp,⟨Y,hP,hXY,hYp⟩,hk,hlen⟩:=h
 have NB:=hid (show ¬ X b/\qp ≠ b from ⟨fun e=>hP.nb (hXY b e),by omega⟩)
 obtain ⟨Pst,hPst⟩:∃ Pst,Pst=SPost X b en qp w0 (fun s=>s.cols.length) i (colOne en S):=⟨_,rfl⟩
 have HPST:=hid hPst
 rw [<- hPst]
 have con:=name_any hP
 have k0:=jC hp 0
 simp only [List.getElem?_toArray,List.getElem?_cons_zero] at k0
 have HPT:=hid hp
 have HK:=hid hk
 have HY:=hid (show _/\_ from ⟨hXY,hYp⟩)
 clear hp hk hXY hYp hPst
 go_enter Tryz.func83,Tryz.ntmps83
 go_wp2_with fail
 refine con.mono ?_
 rintro e w1 ⟨g1,h1⟩
 have HP1:=hid ((g1.g.block qp (jB HPT.out) (by have:=NB.out.2;simpa using this)).trans HPT.out)
 have HK1:=hid (HK.out.leaf g1.g NB.out.1)
 clear con g1
 obtain ⟨nm,S1,hn,rfl,p1⟩|⟨er,hn,rfl⟩:=h1
 case inr =>
  have HR:=hid (show colOne en S=.error er from (congrFun (colOne_eq en) S).trans (bind_error hn))
  clear hn
  go_wp2_with fail
  refine ⟨rfl,?_⟩
  rw [HPST.out]
  exact Or.inr ⟨_,HR.out,rfl,HK1.out⟩
 have HE1:=hid ((congrFun (colOne_eq en) S).trans (bind_ok hn))
 have hS1:=name_keeps hn
 have HS1:=hid (show S1.s=S.s by rw [hS1])
 obtain ⟨W,hW⟩:∃ W,w1.alloc (.cells #[.string nm,.int .i64 2] 62)=W:=⟨_,rfl⟩
 have bW:Below w1.heap.size w1 W:=by rw [<- hW];exact (b0R).alloc (jR _) _
 have hsW:W.heap.size=w1.heap.size+1:=by rw [<- hW];simp
 have hqc:W.heap[w1.heap.size]? = some (.cells #[.string nm,.int .i64 2] 62 (0,0)):=by rw [<- hW];exact heap_alloc_new _ _
 have hpW:=p1.more (Y:=fun k=>Y k \/ (w1.heap.size<=k/\k<W.heap.size)) bW (fun _ h=>Or.inl h) (fun _ h=>h)
 have hqp:=(bW.block _ (jB HP1.out)).trans HP1.out
 have k1:=jC hqp 0
 simp only [List.getElem?_toArray,List.getElem?_cons_zero] at k1
 have con:=may_any (hpW.below ((b0R).alloc (jR _) (.cells #[.string w_int] 9))) (words_at W [w_int] (by simp))
 have BW:=hid bW
 have QC:=hid hqc
 have HPW:=hid hqp
 have HKW:=hid (HK1.out.trans (Below.kept bW X))
 have HSZ:=hid hsW
 have HLB:=hid p1.lt_box
 have HY2:=hid (show (∀ k,X k->Y k \/ (w1.heap.size<=k/\k<W.heap.size))/\(Y qp \/ (w1.heap.size<=qp/\qp<W.heap.size))/\(Y w1.heap.size \/ (w1.heap.size<=w1.heap.size/\w1.heap.size<W.heap.size)) from ⟨fun k hk=>Or.inl (HY.out.1 k hk),Or.inl HY.out.2,Or.inr ⟨jR _,by omega⟩⟩)
 obtain ⟨i0,hi0,hz0,hz1,hz2⟩:=info_parts (show (Tryz.prog.info? 62).map (fun i=>(i.zero,i.size,i.bytes))=some (some (.agg #[.string ByteArray.empty,.int .i64 0]),2,24) by kernel_rfl)
 have HXN:=hid (show ¬ X w1.heap.size from fun hx=>Nat.lt_irrefl _ (p1.lt _ (HY.out.1 _ hx)))
 have HLE0:=hid (show S.s.cols.length<=i/\i<=1000 from ⟨hlen,hi⟩)
 clear hn hS1 p1 bW hsW hqc hpW hqp k0
 go_wp2_with fail
 refine con.mono ?_
 rintro e w2 ⟨g2,h2⟩
 have hne:w1.heap.size ≠ b:=fun e=>by have:=HLB.out;omega
 have hg:=(World.grownBy_alloc W (.cells #[.string w_int] 9) (some b)).trans g2.g
 have HP2:=hid ((hg.block qp (jB HPW.out) (by have:=NB.out.2;simpa using this)).trans HPW.out)
 have QC2:=hid ((hg.block _ (jB QC.out) (by simpa using hne)).trans QC.out)
 have HK2:=hid (HKW.out.leaf hg NB.out.1)
 have HNE:=hid hne
 clear con g2 hg hne k1
 cases hi2:isB [w_int] S1.l with
 | true =>
  rw [may_hit hi2] at h2
  obtain ⟨_,S3,h2,rfl,p3⟩|⟨_,h2,_⟩:=h2
  · have HS3:=hid (show S3.s=S.s by cases h2;exact HS1.out)
    have HE3:=hid (show colOne en S=.ok ((),{ S3 with s:={ S3.s with cols:=S3.s.cols ++ [(nm,1)] } }) from by cases h2;exact HE1.out.trans (bind_ok (may_hit hi2)))
    cases h2
    obtain ⟨S3,hS3⟩:∃ T,T=({ S1 with l:=S1.l.drop [w_int].length }:PS):=⟨_,rfl⟩
    rw [<- hS3] at p3 HS3 HE3
    have HLE:=hid (show S3.s.cols.length<=i/\i<=1000 by rw [HS3.out];exact HLE0.out)
    have q1:=jC QC2.out 1
    have f1:=free_of QC2.out 1
    simp only [gT,gZ,gS] at q1
    have g3:=grown_set w2 w1.heap.size 1 (.int .i64 1)
    have P3:=hid (p3.other HY2.out.2.2 (by have:=HLB.out;have:=HNE.out;omega) g3)
    have Q3:=hid ((heap_setCell_same w2 _ 1 _ _ (.int .i64 1) QC2.out).trans (show _=some (.cells #[.string nm,.int .i64 1] 62 (0,0)) from rfl))
    have HPW3:=hid ((g3.block qp (jB HP2.out) (by simp;intro e;have h1:=HP2.out;rw [e,QC2.out] at h1;simp at h1)).trans HP2.out)
    have HK3:=hid (HK2.out.trans (grown_kept g3 fun k e=>by cases e;exact HXN.out))
    clear g3 p3 hS3 hi2
    go_upto_region 4 with (fail)
    obtain ⟨w3,hw3⟩:∃ w3,w3=w2.setCell ⟨w1.heap.size,1,none⟩ (.int .i64 1):=⟨_,rfl⟩
    obtain ⟨Y3,hY3⟩:∃ Y3,Y3=(fun k=>Y k \/ (w1.heap.size<=k/\k<W.heap.size)):=⟨_,rfl⟩
    rw [<- hw3] at P3 Q3 HPW3 HK3 ⊢
    rw [<- hY3] at P3
    have HY3:=hid (show (∀ k,X k->Y3 k)/\Y3 qp/\Y3 w1.heap.size by rw [hY3];exact HY2.out)
    clear hw3 hY3 q1 f1
    obtain ⟨ta,tc,L,hbx,hsl,hls⟩:=P3.out.open
    obtain ⟨ca,cc,hcv,_⟩:=owns_shape' hls.cols.1
    have TJ3:=hid (show TJ b qp 5 L.cols w3 from ⟨HPW3.out,by simpa [boxC] using jC hbx 5,free_of hbx 5⟩)
    have HBX:=hid hbx
    have HSL:=hid hsl
    have HLS:=hid hls
    have NY:=hid (show ∀ q,L.cols.ownBlock=some q->¬ Y3 q from hls.cols.2)
    clear hbx hsl hls
    rw [hcv] at TJ3 NY
    have HCV:=hid hcv
    clear hcv
    refine wp_region_loose2 [([0,1,2,3,4,5],6),([],7),([],8)] (TJ b qp 5 (.slice ca S3.s.cols.length cc)) (Below w3.heap.size w3) (by kernel_rfl) (by kernel_rfl) (by kernel_rfl) (fun w1 w2 h b=>h.trans (b.mono h.size)) (Below.drew b0R) ?_
    apply wpSegs_cons (fun w'=>TJ b qp 5 (.slice ca S3.s.cols.length cc) w'/\w'.heap[w1.heap.size]? = some (.cells #[.string nm,.int .i64 1] 62 (0,0))) (T6cols #[.string nm,.int .i64 1] w3) (fun _ h=>h.1) (fun w' h=>⟨TJ3.out.below h,(h.block _ (jB Q3.out)).trans Q3.out⟩)
    case hq =>
     intro w1 hw1
     have ne:Nonempty (Wld (Below w1.heap.size w1)):=⟨⟨w1,Below.refl _ _⟩⟩
     have c0:=fun x:Wld (Below w1.heap.size w1)=>jC (hw1.1.below x.good).1 0
     have c1:=fun x:Wld (Below w1.heap.size w1)=>(hw1.1.below x.good).2.1
     have cc':=fun (x:Wld (Below w1.heap.size w1)) (t:Nat)=>jC ((x.good.block _ (jB hw1.2)).trans hw1.2) t
     have e0:=fun (x:Wld (Below w1.heap.size w1))=>cc' x 0
     have e1:=fun (x:Wld (Below w1.heap.size w1))=>cc' x 1
     simp only [gT,gZ,gS] at c0 e0 e1
     clear cc'
     simp only [pickOps,List.getElem?_cons_zero,List.getElem?_cons_succ]
     apply quiet_hide
     intro KE hKE
     repeat (go_big_quiet_step (fail))
     refine wpQuiet_nil ?_
     exact hKE _ rfl
    case ho=>rfl
    case hop=>rfl
    case hw=>kernel_rfl
    case hD=>exact fun u w1 w2 ⟨g,h1,h2,h3⟩ hb=>⟨g,h1,(hb.block _ (jB h2)).trans h2,h3.trans (hb.mono h3.size)⟩
    case hDJ=>exact fun _ u w' ⟨g,h1,h2,h3⟩=>⟨TJ3.out.below h3,(h3.block _ (jB Q3.out)).trans Q3.out⟩
    case hlo =>
     intro wa ba
     go_wp2_with fail
     exact ⟨wa.heap.size,rfl,heap_alloc_new _ _,ba.alloc ba.size _⟩
    case hrest =>
     rintro u2 w4 ⟨g,rfl,-,-⟩
     simp only [Act.put,List.setIfInBounds_toArray,List.set_cons_succ,List.set_cons_zero]
     apply wpSegs_cons0 (T7cols b qp 5 (S3.s.cols.length+1) (.slice ca S3.s.cols.length cc) (S3.s.cols.flatMap colEnc ++ #[.string nm,.int .i64 1].toList) w3)
     case hCI=>exact fun w' ⟨g,h1,h2,h3⟩=>⟨TJ3.out.below h3,(h3.block _ (jB Q3.out)).trans Q3.out⟩
     case ho=>rfl
     case hop=>rfl
     case hw=>kernel_rfl
     case hD=>exact fun u w1 w2 ⟨wa,h1,h2,h3,h4,h5⟩ hb=>⟨wa,h1,owns_below h2 hb,grown_then h3 hb,h4,h5.below hb⟩
     case hDI =>
      rintro - u w' ⟨wa,h1,h2,h3,h4,h5⟩
      exact ⟨h5,(h3.block _ (jL (jB Q3.out) h1.size) fun e=>NY.out _ e.symm HY3.out.2.2).trans ((h1.block _ (jB Q3.out)).trans Q3.out)⟩
     case hlo =>
      rintro wa ⟨g',e,hq',ba⟩
      obtain rfl:g=g':=by simpa using e
      clear e
      have hva:wa.ownsRow 0 62 2 (.slice ca S3.s.cols.length cc) S3.s.cols.length (S3.s.cols.flatMap colEnc):=by
       have:=owns_below HLS.out.cols.1 ba
       rwa [HCV.out] at this
      refine wpList_append_own_at _ rfl _ _ 26 rfl 0 62 i0 _ 2 24 Tryz.underlying26 hi0 hz0 hz1 hz2 rfl (by decide) _ S3.s.cols.length _ rfl hva ⟨g,0,none⟩ 1 1 #[.string nm,.int .i64 1].toList rfl rfl (fun j u hj=>by rw [addr_add,jC hq'];simpa using hj) (fun u hu=>by simp only [List.mem_cons,List.not_mem_nil,or_false] at hu;rcases hu with rfl|rfl <;> rfl) (by unfold maxLen;have:=HLE.out;omega) (by have:=HLE.out;omega) (Nat.zero_le _) ?_
      intro v1 w5 o1 g1 hx1 at1
      have hj:=TJ3.out.below ba
      have hbw:=(ba.block b P3.out.lt_box).trans HBX.out
      exact wpList_nil ⟨rfl,_,rfl,wa,ba,o1,g1,at1,(g1.block _ (jB hj.1) fun e=>NY.out _ e.symm HY3.out.2.1).trans hj.1,(World.cell?_of_block (w:=wa) (g1.block b (jL P3.out.lt_box ba.size) fun e=>row_not hbw hva (by decide) e)).trans hj.2.1,(World.frozen?_of_block (w:=wa) (g1.block b (jL P3.out.lt_box ba.size) fun e=>row_not hbw hva (by decide) e)).trans hj.2.2⟩
     case hrest =>
      rintro u5 w5 ⟨wa,-,o5,-,-,-⟩
      obtain ⟨ua,uc,rfl,_⟩:=owns_shape' o5
      clear o5
      simp only [Act.put,List.setIfInBounds_toArray,List.set_cons_succ,List.set_cons_zero]
      apply wpSegs_assign
      case hC=>exact fun w1 w2 ⟨wa,h1,h2,h3,h4,h5⟩ hb=>⟨wa,h1,owns_below h2 hb,grown_then h3 hb,h4,h5.below hb⟩
      case hCI =>
       rintro w' ⟨wa,h1,h2,h3,h4,h5⟩
       exact ⟨h5,(h3.block _ (jL (jB Q3.out) h1.size) fun e=>NY.out _ e.symm HY3.out.2.2).trans ((h1.block _ (jB Q3.out)).trans Q3.out)⟩
      case ho=>rfl
      case hop=>rfl
      case hw=>kernel_rfl
      case hj=>rfl
      case hrest =>
       rintro w6 ⟨wa,ba,o6,g6,at6,hj6⟩
       have c0:=jC hj6.1 0
       have c1:=hj6.2.1
       have f1:=hj6.2.2
       simp only [List.getElem?_toArray,List.getElem?_cons_zero] at c0
       have O6:=hid (show _/\_/\_/\_ from ⟨ba,o6,g6,at6⟩)
       have HPW6:=hid hj6.1
       clear ba o6 g6 at6 hj6
       go_wp2_with fail
       go_end0
       rw [HPST.out]
       obtain ⟨ba,o6,g6,at6⟩:=O6.out
       rw [<- HCV.out] at g6 at6
       obtain ⟨pf,kf⟩:=(P3.out.below ba).add_cols (x:=(nm,1)) ((ba.block b P3.out.lt_box).trans HBX.out) (HSL.out.below ba) (HLS.out.below ba) o6 g6 at6
       refine Or.inl ⟨_,HE3.out,rfl,(kf.block qp HY3.out.2.1 (jL (jB HPW3.out) ba.size)).trans ((ba.block _ (jB HPW3.out)).trans HPW3.out),⟨Y3,pf,HY3.out.1,HY3.out.2.1⟩,(HK3.out.trans (Below.kept ba X)).trans (kf.weaken fun k _ hk=>HY3.out.1 k hk),?_⟩
       show (S3.s.cols ++ [_]).length<=i+1
       rw [List.length_append]
       have:=HLE.out
       simp
       omega
  · cases h2
 | false =>
  rw [may_miss hi2] at h2
  obtain ⟨_,_,h2,rfl,p2⟩|⟨_,h2,_⟩:=h2
  · cases h2
    have HE2:=hid (HE1.out.trans ((bind_ok (may_miss hi2)).trans (congrFun (if_neg Bool.false_ne_true) S1)))
    have con:=must_any (p2.below ((b0R).alloc (jR _) (.cells #[.string w_text] 9))) (words_at w2 [w_text] (by simp)) (fun k hk=>by have:=p2.lt_box;omega)
    have k2:=jC HP2.out 0
    simp only [List.getElem?_toArray,List.getElem?_cons_zero] at k2
    clear p2 hi2
    go_wp2_with fail
    refine con.mono ?_
    rintro e w3 ⟨g3,h3⟩
    have hg:=(World.grownBy_alloc w2 (.cells #[.string w_text] 9) (some b)).trans g3.g
    have HPW3:=hid ((hg.block qp (jB HP2.out) (by have:=NB.out.2;simpa using this)).trans HP2.out)
    have Q3:=hid ((hg.block _ (jB QC2.out) (by have:=HNE.out;simpa using this)).trans QC2.out)
    have HK3:=hid (HK2.out.leaf hg NB.out.1)
    clear con g3 hg k2
    obtain ⟨S3,h3,rfl,p3⟩|⟨er,h3,rfl⟩:=h3
    · have HE3:=hid (show colOne en S=.ok ((),{ S3 with s:={ S3.s with cols:=S3.s.cols ++ [(nm,2)] } }) from HE2.out.trans (bind_ok h3))
      have HLE:=hid (show S3.s.cols.length<=i/\i<=1000 by rw [(must_state h3).1,HS1.out];exact HLE0.out)
      have P3:=hid p3
      clear h3 p3
      go_upto_region 4 with (fail)
      obtain ⟨Y3,hY3⟩:∃ Y3,Y3=(fun k=>Y k \/ (w1.heap.size<=k/\k<W.heap.size)):=⟨_,rfl⟩
      rw [<- hY3] at P3
      have HY3:=hid (show (∀ k,X k->Y3 k)/\Y3 qp/\Y3 w1.heap.size by rw [hY3];exact HY2.out)
      clear hY3
      obtain ⟨ta,tc,L,hbx,hsl,hls⟩:=P3.out.open
      obtain ⟨ca,cc,hcv,_⟩:=owns_shape' hls.cols.1
      have TJ3:=hid (show TJ b qp 5 L.cols w3 from ⟨HPW3.out,by simpa [boxC] using jC hbx 5,free_of hbx 5⟩)
      have HBX:=hid hbx
      have HSL:=hid hsl
      have HLS:=hid hls
      have NY:=hid (show ∀ q,L.cols.ownBlock=some q->¬ Y3 q from hls.cols.2)
      clear hbx hsl hls
      rw [hcv] at TJ3 NY
      have HCV:=hid hcv
      clear hcv
      refine wp_region_loose2 [([0,1,2,3,4,5],6),([],7),([],8)] (TJ b qp 5 (.slice ca S3.s.cols.length cc)) (Below w3.heap.size w3) (by kernel_rfl) (by kernel_rfl) (by kernel_rfl) (fun w1 w2 h b=>h.trans (b.mono h.size)) (Below.drew b0R) ?_
      apply wpSegs_cons (fun w'=>TJ b qp 5 (.slice ca S3.s.cols.length cc) w'/\w'.heap[w1.heap.size]? = some (.cells #[.string nm,.int .i64 2] 62 (0,0))) (T6cols #[.string nm,.int .i64 2] w3) (fun _ h=>h.1) (fun w' h=>⟨TJ3.out.below h,(h.block _ (jB Q3.out)).trans Q3.out⟩)
      case hq =>
       intro w1 hw1
       have ne:Nonempty (Wld (Below w1.heap.size w1)):=⟨⟨w1,Below.refl _ _⟩⟩
       have c0:=fun x:Wld (Below w1.heap.size w1)=>jC (hw1.1.below x.good).1 0
       have c1:=fun x:Wld (Below w1.heap.size w1)=>(hw1.1.below x.good).2.1
       have cc':=fun (x:Wld (Below w1.heap.size w1)) (t:Nat)=>jC ((x.good.block _ (jB hw1.2)).trans hw1.2) t
       have e0:=fun (x:Wld (Below w1.heap.size w1))=>cc' x 0
       have e1:=fun (x:Wld (Below w1.heap.size w1))=>cc' x 1
       simp only [gT,gZ,gS] at c0 e0 e1
       clear cc'
       simp only [pickOps,List.getElem?_cons_zero,List.getElem?_cons_succ]
       apply quiet_hide
       intro KE hKE
       repeat (go_big_quiet_step (fail))
       refine wpQuiet_nil ?_
       exact hKE _ rfl
      case ho=>rfl
      case hop=>rfl
      case hw=>kernel_rfl
      case hD=>exact fun u w1 w2 ⟨g,h1,h2,h3⟩ hb=>⟨g,h1,(hb.block _ (jB h2)).trans h2,h3.trans (hb.mono h3.size)⟩
      case hDJ=>exact fun _ u w' ⟨g,h1,h2,h3⟩=>⟨TJ3.out.below h3,(h3.block _ (jB Q3.out)).trans Q3.out⟩
      case hlo =>
       intro wa ba
       go_wp2_with fail
       exact ⟨wa.heap.size,rfl,heap_alloc_new _ _,ba.alloc ba.size _⟩
      case hrest =>
       rintro u2 w4 ⟨g,rfl,-,-⟩
       simp only [Act.put,List.setIfInBounds_toArray,List.set_cons_succ,List.set_cons_zero]
       apply wpSegs_cons0 (T7cols b qp 5 (S3.s.cols.length+1) (.slice ca S3.s.cols.length cc) (S3.s.cols.flatMap colEnc ++ #[.string nm,.int .i64 2].toList) w3)
       case hCI=>exact fun w' ⟨g,h1,h2,h3⟩=>⟨TJ3.out.below h3,(h3.block _ (jB Q3.out)).trans Q3.out⟩
       case ho=>rfl
       case hop=>rfl
       case hw=>kernel_rfl
       case hD=>exact fun u w1 w2 ⟨wa,h1,h2,h3,h4,h5⟩ hb=>⟨wa,h1,owns_below h2 hb,grown_then h3 hb,h4,h5.below hb⟩
       case hDI =>
        rintro - u w' ⟨wa,h1,h2,h3,h4,h5⟩
        exact ⟨h5,(h3.block _ (jL (jB Q3.out) h1.size) fun e=>NY.out _ e.symm HY3.out.2.2).trans ((h1.block _ (jB Q3.out)).trans Q3.out)⟩
       case hlo =>
        rintro wa ⟨g',e,hq',ba⟩
        obtain rfl:g=g':=by simpa using e
        clear e
        have hva:wa.ownsRow 0 62 2 (.slice ca S3.s.cols.length cc) S3.s.cols.length (S3.s.cols.flatMap colEnc):=by
         have:=owns_below HLS.out.cols.1 ba
         rwa [HCV.out] at this
        refine wpList_append_own_at _ rfl _ _ 26 rfl 0 62 i0 _ 2 24 Tryz.underlying26 hi0 hz0 hz1 hz2 rfl (by decide) _ S3.s.cols.length _ rfl hva ⟨g,0,none⟩ 1 1 #[.string nm,.int .i64 2].toList rfl rfl (fun j u hj=>by rw [addr_add,jC hq'];simpa using hj) (fun u hu=>by simp only [List.mem_cons,List.not_mem_nil,or_false] at hu;rcases hu with rfl|rfl <;> rfl) (by unfold maxLen;have:=HLE.out;omega) (by have:=HLE.out;omega) (Nat.zero_le _) ?_
        intro v1 w5 o1 g1 hx1 at1
        have hj:=TJ3.out.below ba
        have hbw:=(ba.block b P3.out.lt_box).trans HBX.out
        exact wpList_nil ⟨rfl,_,rfl,wa,ba,o1,g1,at1,(g1.block _ (jB hj.1) fun e=>NY.out _ e.symm HY3.out.2.1).trans hj.1,(World.cell?_of_block (w:=wa) (g1.block b (jL P3.out.lt_box ba.size) fun e=>row_not hbw hva (by decide) e)).trans hj.2.1,(World.frozen?_of_block (w:=wa) (g1.block b (jL P3.out.lt_box ba.size) fun e=>row_not hbw hva (by decide) e)).trans hj.2.2⟩
       case hrest =>
        rintro u5 w5 ⟨wa,-,o5,-,-,-⟩
        obtain ⟨ua,uc,rfl,_⟩:=owns_shape' o5
        clear o5
        simp only [Act.put,List.setIfInBounds_toArray,List.set_cons_succ,List.set_cons_zero]
        apply wpSegs_assign
        case hC=>exact fun w1 w2 ⟨wa,h1,h2,h3,h4,h5⟩ hb=>⟨wa,h1,owns_below h2 hb,grown_then h3 hb,h4,h5.below hb⟩
        case hCI =>
         rintro w' ⟨wa,h1,h2,h3,h4,h5⟩
         exact ⟨h5,(h3.block _ (jL (jB Q3.out) h1.size) fun e=>NY.out _ e.symm HY3.out.2.2).trans ((h1.block _ (jB Q3.out)).trans Q3.out)⟩
        case ho=>rfl
        case hop=>rfl
        case hw=>kernel_rfl
        case hj=>rfl
        case hrest =>
         rintro w6 ⟨wa,ba,o6,g6,at6,hj6⟩
         have c0:=jC hj6.1 0
         have c1:=hj6.2.1
         have f1:=hj6.2.2
         simp only [List.getElem?_toArray,List.getElem?_cons_zero] at c0
         have O6:=hid (show _/\_/\_/\_ from ⟨ba,o6,g6,at6⟩)
         have HPW6:=hid hj6.1
         clear ba o6 g6 at6 hj6
         go_wp2_with fail
         go_end0
         rw [HPST.out]
         obtain ⟨ba,o6,g6,at6⟩:=O6.out
         rw [<- HCV.out] at g6 at6
         obtain ⟨pf,kf⟩:=(P3.out.below ba).add_cols (x:=(nm,2)) ((ba.block b P3.out.lt_box).trans HBX.out) (HSL.out.below ba) (HLS.out.below ba) o6 g6 at6
         refine Or.inl ⟨_,HE3.out,rfl,(kf.block qp HY3.out.2.1 (jL (jB HPW3.out) ba.size)).trans ((ba.block _ (jB HPW3.out)).trans HPW3.out),⟨Y3,pf,HY3.out.1,HY3.out.2.1⟩,(HK3.out.trans (Below.kept ba X)).trans (kf.weaken fun k _ hk=>HY3.out.1 k hk),?_⟩
         show (S3.s.cols ++ [_]).length<=i+1
         rw [List.length_append]
         have:=HLE.out
         simp
         omega
    · have HR:=hid (show colOne en S=.error er from HE2.out.trans (bind_error h3))
      clear h3
      go_wp2_with fail
      refine ⟨rfl,?_⟩
      rw [HPST.out]
      exact Or.inr ⟨_,HR.out,rfl,HK3.out⟩
  · cases h2
end
section
open Go.RowKit
theorem value_keeps {en:Nat} {S S1:PS} {v:Val} (h:valueM en S=.ok (v,S1)):S1.s=S.s/\S1.out=S.out:=by
 unfold valueM at h
 split at h
 · cases h;exact ⟨rfl,rfl⟩
 · split at h
   · cases h;exact ⟨rfl,rfl⟩
   · split at h
     · cases h;exact ⟨rfl,rfl⟩
     · cases h
theorem TJ.turn {Y:Nat->Prop} {b qp j en:Nat} {S:PS} {v:Value} {w w':World} (h:TJ b qp j v w) (hj:j ≠ 0) (hn:qp ≠ b) (g:Turn b w w') (p:PAt Y b en S w'):TJ b qp j v w':=by
 obtain ⟨_,_,hb,_⟩:=p.box
 exact ⟨(g.g.block _ (jB h.1) (by simpa using hn)).trans h.1,(g.c j hj).trans h.2.1,free_of hb j⟩
def R5 (Y:Nat->Prop) (b en:Nat) (S1:PS) (x:Value) (W:World) (u:Value) (w':World):Prop:=u=x/\Turn b W w'/\PAt Y b en S1 w'
def R6 (Y:Nat->Prop) (b en:Nat) (S1:PS) (ec:Array Value) (W:World) (u:Value) (w':World):Prop:=∃ g,u=.slice (some ⟨g,0,none⟩) 1 1/\w'.heap[g]? = some (.cells ec 50 (0,0))/\Turn b W w'/\PAt Y b en S1 w'
def R7 (Y:Nat->Prop) (b en qp n:Nat) (S1:PS) (v:Value) (xs:List Value) (W:World) (u:Value) (w':World):Prop :=
 ∃ wa,Turn b W wa/\PAt Y b en S1 wa/\w'.ownsRow 0 50 3 u n xs/\wa.grownBy w' v.ownBlock/\(u.ownBlock=v.ownBlock \/ u.ownBlock=some wa.heap.size)/\TJ b qp 7 v w'
theorem row1_any {X:Nat->Prop} {b en qp:Nat} {w0:World} {i:Nat} {S:PS} {w:World} (hi:i<=1000) (h:SJ X b en qp w0 (fun s=>s.row.length) i S w) (hb0:b<qp) :
 Calls Tryz.prog 86 #[.pointer (some ⟨qp,0,none⟩)] w fun e w'=>SPost X b en qp w0 (fun s=>s.row.length) i (rowOne en S) e w':=by
 obtain ⟨hp,⟨Y,hP,hXY,hYp⟩,hk,hlen⟩:=h
 have NB:=hid (show ¬ X b/\qp ≠ b from ⟨fun e=>hP.nb (hXY b e),by omega⟩)
 have e180:∀ args w,(callFunc 87 args).run Tryz.prog w=.ok (.enter 87 args) w:=enters_of Tryz.func87 (by kernel_rfl) rfl
 obtain ⟨Pst,hPst⟩:∃ Pst,Pst=SPost X b en qp w0 (fun s=>s.row.length) i (rowOne en S):=⟨_,rfl⟩
 have HPST:=hid hPst
 rw [<- hPst]
 obtain ⟨ta,tc,L,hbx,hsl,hls⟩:=hP.open
 obtain ⟨ca,cc,hcv,_⟩:=owns_shape' hls.row.1
 have HTJ:=hid (show TJ b qp 7 (.slice ca S.s.row.length cc) w from ⟨hp,by rw [<- hcv];simpa [boxC] using jC hbx 7,free_of hbx 7⟩)
 have HP:=hid hP
 have HK:=hid hk
 have HY:=hid (show _/\_ from ⟨hXY,hYp⟩)
 have HE:=hid e180
 have HLE:=hid (show S.s.row.length<=i/\i<=1000 from ⟨hlen,hi⟩)
 clear hP hp hk hXY hYp hPst e180 hbx hsl hls hcv hlen
 have QUI:=hid (show ∀ w1,TJ b qp 7 (.slice ca S.s.row.length cc) w1->∀ w2,Below w1.heap.size w1 w2->w2.cell? ⟨qp,0,none⟩=some (.pointer (some ⟨b,0,none⟩))/\w2.cell? ⟨b,7,none⟩=some (.slice ca S.s.row.length cc) from fun w1 h w2 hb=>⟨by simpa using jC (h.below hb).1 0,(h.below hb).2.1⟩)
 cases hn:valueM en S with
 | error er =>
  have HR:=hid (show rowOne en S=.error er from (congrFun (rowOne_eq en) S).trans (bind_error hn))
  have HN:=hid hn
  clear hn
  go_enter Tryz.func86,Tryz.ntmps86
  go_upto_region 0 with (fail)
  apply wp_region_dies [0,1,2,3,4,5] 6 (Below w.heap.size w) (fun e w'=>e=trouble er/\Kept X w0 w')
  case hq =>
   intro w1 hw1
   have ne:Nonempty (Wld (Below w1.heap.size w1)):=⟨⟨w1,Below.refl _ _⟩⟩
   have c0:=fun x:Wld (Below w1.heap.size w1)=>(QUI.out w1 (HTJ.out.below hw1) x.val x.good).1
   have c1:=fun x:Wld (Below w1.heap.size w1)=>(QUI.out w1 (HTJ.out.below hw1) x.val x.good).2
   simp only [pickOps,List.getElem?_cons_zero,List.getElem?_cons_succ]
   apply quiet_hide
   intro KE hKE
   repeat (go_big_quiet_step (fail))
   refine wpQuiet_nil ?_
   exact hKE _ rfl
  case hm=>kernel_rfl
  case hB=>kernel_rfl
  case hl=>decide
  case hI=>exact fun w1 w2 h b=>h.trans (b.mono h.size)
  case hw=>exact Below.drew b0R
  case ho=>rfl
  case hwant=>kernel_rfl
  case hd =>
   intro w1 hw1
   refine dies_call (args:=#[.pointer (some ⟨b,0,none⟩)]) (run_call_func rfl (by kernel_rfl) HE.out) ((value_any (HP.out.below hw1)).mono ?_)
   rintro e w2 ⟨g2,⟨_,_,h2,_⟩|⟨er',h2,rfl⟩⟩
   · rw [HN.out] at h2;cases h2
   · rw [HN.out] at h2
     cases h2
     exact ⟨⟨_,rfl⟩,rfl,(HK.out.trans (Below.kept hw1 X)).leaf g2.g NB.out.1⟩
  case hQ =>
   rintro a' w' ch hd ⟨h1,h2⟩
   refine ⟨hd,?_⟩
   rw [HPST.out]
   exact Or.inr ⟨er,HR.out,h1,h2⟩
 | ok q =>
  obtain ⟨⟨vk,vn,vs⟩,S1⟩:=q
  obtain ⟨hs1,_⟩:=value_keeps hn
  have HR:=hid (show rowOne en S=.ok ((),{ S1 with s:={ S1.s with row:=S1.s.row ++ [⟨vk,vn,vs⟩] } }) from (congrFun (rowOne_eq en) S).trans (bind_ok hn))
  have HN:=hid hn
  have HS1:=hid hs1
  obtain ⟨i0,hi0,hz0,hz1,hz2⟩:=info_parts (show (Tryz.prog.info? 50).map (fun i=>(i.zero,i.size,i.bytes))=some (some (.agg #[.int .i64 0,.int .i64 0,.string ByteArray.empty]),3,32) by kernel_rfl)
  clear hn hs1
  go_enter Tryz.func86,Tryz.ntmps86
  go_upto_region 0 with (fail)
  refine wp_region_loose2 [([0,1,2,3,4,5],6),([],7),([],8),([],9)] (TJ b qp 7 (.slice ca S.s.row.length cc)) (Below w.heap.size w) (by kernel_rfl) (by kernel_rfl) (by kernel_rfl) (fun w1 w2 h b=>h.trans (b.mono h.size)) (Below.drew b0R) ?_
  apply wpSegs_call (TJ b qp 7 (.slice ca S.s.row.length cc)) (R5 Y b en S1 (.agg #[.int .i64 vk,.int .i64 vn,.string vs]) w) (fun _ h=>h) (fun w' h=>HTJ.out.below h)
  case hq =>
   intro w1 hw1
   have ne:Nonempty (Wld (Below w1.heap.size w1)):=⟨⟨w1,Below.refl _ _⟩⟩
   have c0:=fun x:Wld (Below w1.heap.size w1)=>(QUI.out w1 hw1 x.val x.good).1
   have c1:=fun x:Wld (Below w1.heap.size w1)=>(QUI.out w1 hw1 x.val x.good).2
   simp only [pickOps,List.getElem?_cons_zero,List.getElem?_cons_succ]
   apply quiet_hide
   intro KE hKE
   repeat (go_big_quiet_step (fail))
   refine wpQuiet_nil ?_
   exact hKE _ rfl
  case ho=>rfl
  case hw=>kernel_rfl
  case hD=>exact fun u w1 w2 h hb=>⟨h.1,h.2.1.trans (turn_below h.2.2.lt_box hb),h.2.2.below hb⟩
  case hDJ=>exact fun _ u w' h=>HTJ.out.turn (by decide) NB.out.2 h.2.1 h.2.2
  case hlo =>
   intro w1 hw1
   refine loose_call (args:=#[.pointer (some ⟨b,0,none⟩)]) (run_call_func rfl (by kernel_rfl) HE.out) ((value_any (HP.out.below hw1)).mono ?_)
   rintro e w2 ⟨g2,⟨a,S',h2,rfl,p2⟩|⟨er',h2,rfl⟩⟩
   · rw [HN.out] at h2
     cases h2
     exact ⟨_,rfl,rfl,(turn_below HP.out.lt_box hw1).trans g2,p2⟩
   · rw [HN.out] at h2;cases h2
  case hrest =>
   rintro u w1 ⟨rfl,-,-⟩
   simp only [Act.put,List.setIfInBounds_toArray,List.set_cons_succ,List.set_cons_zero]
   apply wpSegs_cons0 (R6 Y b en S1 #[.int .i64 vk,.int .i64 vn,.string vs] w)
   case hCI=>exact fun w' h=>HTJ.out.turn (by decide) NB.out.2 h.2.1 h.2.2
   case ho=>rfl
   case hop=>rfl
   case hw=>kernel_rfl
   case hD=>exact fun u w1 w2 ⟨g,h1,h2,h3,h4⟩ hb=>⟨g,h1,(hb.block _ (jB h2)).trans h2,h3.trans (turn_below h4.lt_box hb),h4.below hb⟩
   case hDI=>exact fun _ u w' ⟨g,h1,h2,h3,h4⟩=>HTJ.out.turn (by decide) NB.out.2 h3 h4
   case hlo =>
    rintro wa ⟨-,g1,p1⟩
    have G1:=hid g1
    have P1:=hid p1
    clear g1 p1
    go_wp2_with fail
    have ba:Below wa.heap.size wa (wa.alloc (.cells #[.int .i64 vk,.int .i64 vn,.string vs] 50)):=(b0R).alloc (jR _) _
    exact ⟨wa.heap.size,rfl,heap_alloc_new _ _,G1.out.trans (turn_below P1.out.lt_box ba),P1.out.below ba⟩
   case hrest =>
    rintro u2 w2 ⟨g,rfl,-,-,-⟩
    simp only [Act.put,List.setIfInBounds_toArray,List.set_cons_succ,List.set_cons_zero]
    apply wpSegs_cons0 (R7 Y b en qp (S1.s.row.length+1) S1 (.slice ca S.s.row.length cc) (S1.s.row.flatMap valEnc ++ [.int .i64 vk,.int .i64 vn,.string vs]) w)
    case hCI=>exact fun w' ⟨g,h1,h2,h3,h4⟩=>HTJ.out.turn (by decide) NB.out.2 h3 h4
    case ho=>rfl
    case hop=>rfl
    case hw=>kernel_rfl
    case hD=>exact fun u w1 w2 ⟨wa,h1,h2,h3,h4,h5,h6⟩ hb=>⟨wa,h1,h2,owns_below h3 hb,grown_then h4 hb,h5,h6.below hb⟩
    case hDI=>exact fun _ u w' ⟨wa,h1,h2,h3,h4,h5,h6⟩=>h6
    case hlo =>
     rintro wa ⟨g',e,hq',g4,p4⟩
     obtain rfl:g=g':=by simpa using e
     clear e
     have hj:=HTJ.out.turn (by decide) NB.out.2 g4 p4
     obtain ⟨_,_,L4,hb4,_,hl4⟩:=p4.open
     have e4:L4.row=.slice ca S.s.row.length cc:=by
      have:=jC hb4 7
      rw [hj.2.1] at this
      simpa [boxC] using this.symm
     have hva:wa.ownsRow 0 50 3 (.slice ca S.s.row.length cc) S1.s.row.length (S1.s.row.flatMap valEnc):=by
      have:=hl4.row.1
      rwa [e4] at this
     refine wpList_append_own_at _ rfl _ _ 29 rfl 0 50 i0 _ 3 32 Tryz.underlying29 hi0 hz0 hz1 hz2 rfl (by decide) _ S1.s.row.length _ rfl hva ⟨g,0,none⟩ 1 1 [.int .i64 vk,.int .i64 vn,.string vs] rfl rfl (fun j u hj=>by rw [addr_add,jC hq'];simpa using hj) (fun u hu=>by simp only [List.mem_cons,List.not_mem_nil,or_false] at hu;rcases hu with rfl|rfl|rfl <;> rfl) (by unfold maxLen;have:=HLE.out;rw [HS1.out];omega) (by have:=HLE.out;rw [HS1.out];omega) (Nat.zero_le _) ?_
     intro v1 w5 o1 g1 hx1 at1
     have nq:∀ q,(Value.slice ca S.s.row.length cc).ownBlock=some q->¬ Y q:=fun q hq=>hl4.row.2 q (by rw [e4];exact hq)
     exact wpList_nil ⟨rfl,_,rfl,wa,g4,p4,o1,g1,at1,(g1.block _ (jB hj.1) fun e=>nq _ e.symm HY.out.2).trans hj.1,(World.cell?_of_block (w:=wa) (g1.block b (jB hb4) fun e=>row_not hb4 hva (by decide) e)).trans hj.2.1,(World.frozen?_of_block (w:=wa) (g1.block b (jB hb4) fun e=>row_not hb4 hva (by decide) e)).trans hj.2.2⟩
    case hrest =>
     rintro u5 w5 ⟨wa,-,-,o5,-,-,-⟩
     obtain ⟨ua,uc,rfl,_⟩:=owns_shape' o5
     clear o5
     simp only [Act.put,List.setIfInBounds_toArray,List.set_cons_succ,List.set_cons_zero]
     apply wpSegs_assign
     case hC=>exact fun w1 w2 ⟨wa,h1,h2,h3,h4,h5,h6⟩ hb=>⟨wa,h1,h2,owns_below h3 hb,grown_then h4 hb,h5,h6.below hb⟩
     case hCI=>exact fun w' ⟨wa,h1,h2,h3,h4,h5,h6⟩=>h6
     case ho=>rfl
     case hop=>rfl
     case hw=>kernel_rfl
     case hj=>rfl
     case hrest =>
      rintro w6 ⟨wa,g4,p4,o6,g6,at6,hj6⟩
      have c0:=jC hj6.1 0
      have c1:=hj6.2.1
      have f1:=hj6.2.2
      simp only [List.getElem?_toArray,List.getElem?_cons_zero] at c0
      have O6:=hid (show _/\_/\_/\_/\_ from ⟨g4,p4,o6,g6,at6⟩)
      clear g4 p4 o6 g6 at6 hj6
      go_wp2_with fail
      go_end0
      rw [HPST.out]
      obtain ⟨g4,p4,o6,g6,at6⟩:=O6.out
      have hj:=HTJ.out.turn (by decide) NB.out.2 g4 p4
      obtain ⟨_,_,L4,hb4,hs4,hl4⟩:=p4.open
      have e4:L4.row=.slice ca S.s.row.length cc:=by
       have:=jC hb4 7
       rw [hj.2.1] at this
       simpa [boxC] using this.symm
      rw [<- e4] at g6 at6
      obtain ⟨pf,kf⟩:=p4.add_row (x:=⟨vk,vn,vs⟩) hb4 hs4 hl4 o6 g6 at6
      refine Or.inl ⟨_,HR.out,rfl,(kf.block qp HY.out.2 (jB hj.1)).trans hj.1,⟨Y,pf,HY.out.1,HY.out.2⟩,(HK.out.leaf g4.g NB.out.1).trans (kf.weaken fun k _ hk=>HY.out.1 k hk),?_⟩
      show (S1.s.row ++ [_]).length<=i+1
      rw [List.length_append,HS1.out]
      have:=HLE.out
      simp
      omega
end
section
open Go.RowKit
def T6sets (ec:Array Value) (W:World) (u:Value) (w':World):Prop:=∃ g,u=.slice (some ⟨g,0,none⟩) 1 1/\w'.heap[g]? = some (.cells ec 54 (0,0))/\Below W.heap.size W w'
def T7sets (b qp j n:Nat) (v:Value) (xs:List Value) (W:World) (u:Value) (w':World):Prop :=
 ∃ wa,Below W.heap.size W wa/\w'.ownsRow 0 54 5 u n xs/\wa.grownBy w' v.ownBlock/\(u.ownBlock=v.ownBlock \/ u.ownBlock=some wa.heap.size)/\TJ b qp j v w'
theorem grown_set3' (w:World) (q:Nat) (x y z:Value):w.grownBy (((w.setCell ⟨q,2,none⟩ x).setCell ⟨q,3,none⟩ y).setCell ⟨q,4,none⟩ z) (some q):=((grown_set _ _ _ _).trans (grown_set _ _ _ _)).trans (grown_set _ _ _ _)
theorem heap_set3' {w:World} {q:Nat} {u0 u1 u2 u3 u4:Value} {T:TypeId} (h:w.heap[q]? = some (.cells #[u0,u1,u2,u3,u4] T (0,0))) (x y z:Value) :
 (((w.setCell ⟨q,2,none⟩ x).setCell ⟨q,3,none⟩ y).setCell ⟨q,4,none⟩ z).heap[q]? = some (.cells #[u0,u1,x,y,z] T (0,0)) :=
 (heap_setCell_same _ _ _ _ _ _ ((heap_setCell_same _ _ _ _ _ _ ((heap_setCell_same _ _ _ _ _ _ h).trans rfl)).trans rfl)).trans rfl
theorem number_keeps {en:Nat} {S S1:PS} {n:Int} (h:numberM en S=.ok (n,S1)):S1.s=S.s:=by
 unfold numberM at h
 split at h
 · cases h;rfl
 · cases h
theorem set1_any {X:Nat->Prop} {b en qp:Nat} {w0:World} {i:Nat} {S:PS} {w:World} (hi:i<=1000) (h:SJ X b en qp w0 (fun s=>s.sets.length) i S w) (hb0:b<qp) :
 Calls Tryz.prog 88 #[.pointer (some ⟨qp,0,none⟩)] w fun e w'=>SPost X b en qp w0 (fun s=>s.sets.length) i (setOne en S) e w':=by
 obtain ⟨hp,⟨Y,hP,hXY,hYp⟩,hk,hlen⟩:=h
 have NB:=hid (show ¬ X b/\qp ≠ b from ⟨fun e=>hP.nb (hXY b e),by omega⟩)
 obtain ⟨Pst,hPst⟩:∃ Pst,Pst=SPost X b en qp w0 (fun s=>s.sets.length) i (setOne en S):=⟨_,rfl⟩
 have HPST:=hid hPst
 rw [<- hPst]
 obtain ⟨w1,hw1⟩:∃ x,x=w:=⟨_,rfl⟩
 rw [<- hw1] at hp hP hk ⊢
 have HP1:=hid hp
 have HK1:=hid hk
 have P1:=hid hP
 have HY:=hid (show _/\_ from ⟨hXY,hYp⟩)
 have HLE0:=hid (show S.s.sets.length<=i/\i<=1000 from ⟨hlen,hi⟩)
 have HE1:=hid (congrFun (setOne_eq en) S)
 clear hp hk hP hXY hYp hPst hw1 hlen
 go_enter Tryz.func88,Tryz.ntmps88
 have kp1:=jC HP1.out 0
 simp only [List.getElem?_toArray,List.getElem?_cons_zero] at kp1
 have con:=name_any P1.out
 go_wp2_with fail
 refine con.mono ?_
 rintro e w2 ⟨g,h⟩
 have hg:=g.g
 have HP2:=hid ((hg.block qp (jB HP1.out) (by have:=NB.out.2;simpa using this)).trans HP1.out)
 have HK2:=hid (HK1.out.leaf hg NB.out.1)
 clear con g hg kp1
 obtain ⟨nm,S2,hn,rfl,p2⟩|⟨er,hn,rfl⟩:=h
 case inr =>
  have HR:=hid (show setOne en S=.error er from HE1.out.trans (bind_error hn))
  clear hn
  go_wp2_with fail
  refine ⟨rfl,?_⟩
  rw [HPST.out]
  exact Or.inr ⟨_,HR.out,rfl,HK2.out⟩
 have HE2:=hid (HE1.out.trans (bind_ok hn))
 have hS2:=name_keeps hn
 have HS2:=hid (show S2.s=S.s by rw [hS2])
 obtain ⟨w3,hw3⟩:∃ W,w2.alloc (.cells #[.string nm,.string ⟨#[]⟩,.int .i64 0,.int .i64 0,.string ⟨#[]⟩] 54)=W:=⟨_,rfl⟩
 have bW:Below w2.heap.size w2 w3:=by rw [<- hw3];exact (b0R).alloc (jR _) _
 have hsW:w3.heap.size=w2.heap.size+1:=by rw [<- hw3];simp
 have hqc:w3.heap[w2.heap.size]? = some (.cells #[.string nm,.string ⟨#[]⟩,.int .i64 0,.int .i64 0,.string ⟨#[]⟩] 54 (0,0)):=by rw [<- hw3];exact heap_alloc_new _ _
 have hpW:=p2.more (Y:=fun k=>Y k \/ (w2.heap.size<=k/\k<w3.heap.size)) bW (fun _ h=>Or.inl h) (fun _ h=>h)
 obtain ⟨Y3,hY3⟩:∃ Y3,Y3=(fun k=>Y k \/ (w2.heap.size<=k/\k<w3.heap.size)):=⟨_,rfl⟩
 rw [<- hY3] at hpW
 have HY3:=hid (show (∀ k,X k->Y3 k)/\Y3 qp/\Y3 w2.heap.size by rw [hY3];exact ⟨fun k hk=>Or.inl (HY.out.1 k hk),Or.inl HY.out.2,Or.inr ⟨jR _,by omega⟩⟩)
 have HP3:=cy bW HP2
 have HK3:=hid (HK2.out.trans (Below.kept bW X))
 have QC3:=hid hqc
 have P3:=hid hpW
 have HXN:=hid (show ¬ X w2.heap.size from fun hx=>Nat.lt_irrefl _ (p2.lt _ (HY.out.1 _ hx)))
 have HNE:=hid (show w2.heap.size ≠ b/\b<w2.heap.size from ⟨fun e=>by have:=p2.lt_box;omega,p2.lt_box⟩)
 have HQP:=hid (show qp ≠ w2.heap.size from fun e=>by have:=jB HP2.out;omega)
 obtain ⟨i0,hi0,hz0,hz1,hz2⟩:=info_parts (show (Tryz.prog.info? 54).map (fun i=>(i.zero,i.size,i.bytes))=some (some (.agg #[.string ByteArray.empty,.string ByteArray.empty,.int .i64 0,.int .i64 0,.string ByteArray.empty]),5,64) by kernel_rfl)
 clear hn hS2 p2 bW hsW hqc hpW hY3
 have kp3:=jC HP3.out 0
 simp only [List.getElem?_toArray,List.getElem?_cons_zero] at kp3
 have con:=must_any (P3.out.below ((b0R).alloc (jR _) (.cells #[.string w_eq] 9))) (words_at w3 [w_eq] (by simp)) (fun k hk=>by have:=P3.out.lt_box;omega)
 have qi0:=jC QC3.out 0
 have fi0:=free_of QC3.out 0
 have si0:w3.setCell ⟨w2.heap.size,0,none⟩ (.string nm)=w3:=setCell_id QC3.out rfl
 have qi1:=jC QC3.out 1
 have fi1:=free_of QC3.out 1
 have si1:w3.setCell ⟨w2.heap.size,1,none⟩ (.string ⟨#[]⟩)=w3:=setCell_id QC3.out rfl
 have qi2:=jC QC3.out 2
 have fi2:=free_of QC3.out 2
 have si2:w3.setCell ⟨w2.heap.size,2,none⟩ (.int .i64 0)=w3:=setCell_id QC3.out rfl
 have qi3:=jC QC3.out 3
 have fi3:=free_of QC3.out 3
 have si3:w3.setCell ⟨w2.heap.size,3,none⟩ (.int .i64 0)=w3:=setCell_id QC3.out rfl
 have qi4:=jC QC3.out 4
 have fi4:=free_of QC3.out 4
 have si4:w3.setCell ⟨w2.heap.size,4,none⟩ (.string ⟨#[]⟩)=w3:=setCell_id QC3.out rfl
 simp only [gT,gZ,gS] at qi0 qi1 qi2 qi3 qi4
 go_wp2_with fail
 refine con.mono ?_
 rintro e w4 ⟨g,h⟩
 have hg:=(World.grownBy_alloc w3 (.cells #[.string w_eq] 9) (some b)).trans g.g
 have HP4:=hid ((hg.block qp (jB HP3.out) (by have:=NB.out.2;simpa using this)).trans HP3.out)
 have QC4:=hid ((hg.block _ (jB QC3.out) (by have:=HNE.out.1;simpa using this)).trans QC3.out)
 have HK4:=hid (HK3.out.leaf hg NB.out.1)
 clear con g hg kp3 qi0 qi1 qi2 qi3 qi4 fi0 fi1 fi2 fi3 fi4 si0 si1 si2 si3 si4
 obtain ⟨S4,h4,rfl,p4⟩|⟨er,h4,rfl⟩:=h
 case inr =>
  have HR:=hid (show setOne en S=.error er from HE2.out.trans (bind_error h4))
  clear h4
  go_wp2_with fail
  refine ⟨rfl,?_⟩
  rw [HPST.out]
  exact Or.inr ⟨_,HR.out,rfl,HK4.out⟩
 have HS4:=hid (show S4.s=S.s by rw [(must_state h4).1,HS2.out])
 have HE4:=hid ((HE2.out.trans (bind_ok h4)).trans (bind_ok (m:=nowM en) (S:=S4) (S':=S4) (a:=nowT en S4) rfl))
 have P4:=hid p4
 have kp4:=jC HP4.out 0
 simp only [List.getElem?_toArray,List.getElem?_cons_zero] at kp4
 obtain ⟨hsz,_,_⟩:=now_ok p4
 have con:=now_any p4
 obtain ⟨t,ht⟩:∃ t,t=nowT en S4:=⟨_,rfl⟩
 rw [<- ht] at con hsz HE4
 clear h4 p4 ht
 obtain ⟨tk,tp,tt,tn⟩:=t
 simp only [Tok.enc] at con
 go_wp2_with fail
 refine con.mono ?_
 rintro e w5 ⟨rfl,hb5⟩
 have HP5:=cy hb5 HP4
 have QC5:=cy hb5 QC4
 have HK5:=hid (HK4.out.trans (Below.kept hb5 X))
 have P5:=hid (P4.out.below hb5)
 clear con hb5 kp4
 have con:=named_any ⟨tk,tp,tt,tn⟩ P5.out.env hsz
 simp only [Tok.enc] at con
 go_wp2_with fail
 refine con.mono ?_
 rintro e w6 ⟨rfl,hb6⟩
 have HP6:=cy hb6 HP5
 have QC6:=cy hb6 QC5
 have HK6:=hid (HK5.out.trans (Below.kept hb6 X))
 have P6:=hid (P5.out.below hb6)
 clear con hb6
 cases hna:namedT ⟨tk,tp,tt,tn⟩ with
 | true =>
  have HE6:=hid (HE4.out.trans (congrFun (if_pos hna) S4))
  clear hna
  have kp6:=jC HP6.out 0
  simp only [List.getElem?_toArray,List.getElem?_cons_zero] at kp6
  have con:=name_any P6.out
  go_wp2_with fail
  refine con.mono ?_
  rintro e w7 ⟨g,h⟩
  have hg:=g.g
  have HP7:=hid ((hg.block qp (jB HP6.out) (by have:=NB.out.2;simpa using this)).trans HP6.out)
  have QC7:=hid ((hg.block _ (jB QC6.out) (by have:=HNE.out.1;simpa using this)).trans QC6.out)
  have HK7:=hid (HK6.out.leaf hg NB.out.1)
  clear con g hg kp6
  obtain ⟨dn,S7,h7,rfl,p7⟩|⟨er,h7,rfl⟩:=h
  case inr =>
   have HR:=hid (show setOne en S=.error er from HE6.out.trans (bind_error h7))
   clear h7
   go_wp2_with fail
   refine ⟨rfl,?_⟩
   rw [HPST.out]
   exact Or.inr ⟨_,HR.out,rfl,HK7.out⟩
  have hS7:=name_keeps h7
  have HS7:=hid (show S7.s=S.s by rw [hS7];exact HS4.out)
  have HE7:=hid (HE6.out.trans (bind_ok h7))
  have P7:=hid p7
  clear h7 hS7 p7
  have qc1:=jC QC7.out 1
  have fc1:=free_of QC7.out 1
  simp only [gT,gZ,gS] at qc1
  have g8:=grown_set w7 w2.heap.size 1 (.string dn)
  have P8:=hid (P7.out.other HY3.out.2.2 HNE.out.2 g8)
  have HP8:=hid ((g8.block qp (jB HP7.out) (by have:=HQP.out;simpa using this)).trans HP7.out)
  have QC8:=hid ((heap_setCell_same w7 _ 1 _ _ (.string dn) QC7.out).trans (show _=some (.cells #[.string nm,.string dn,.int .i64 0,.int .i64 0,.string ⟨#[]⟩] 54 (0,0)) from rfl))
  have HK8:=hid (HK7.out.trans (grown_kept g8 fun k e=>by cases e;exact HXN.out))
  clear g8
  go_upto_region 4 with (fail)
  obtain ⟨w8,hw8⟩:∃ x,x=World.setCell (w7) ⟨w2.heap.size,1,none⟩ (.string dn):=⟨_,rfl⟩
  rw [<- hw8] at P8 HP8 QC8 HK8 ⊢
  clear hw8 qc1 fc1
  have kp8:=jC HP8.out 0
  simp only [List.getElem?_toArray,List.getElem?_cons_zero] at kp8
  have con:=must_any (P8.out.below ((b0R).alloc (jR _) (.cells #[.string w_plus] 9))) (words_at w8 [w_plus] (by simp)) (fun k hk=>by have:=P8.out.lt_box;omega)
  go_wp2_with fail
  refine con.mono ?_
  rintro e w9 ⟨g,h⟩
  have hg:=(World.grownBy_alloc w8 (.cells #[.string w_plus] 9) (some b)).trans g.g
  have HP9:=hid ((hg.block qp (jB HP8.out) (by have:=NB.out.2;simpa using this)).trans HP8.out)
  have QC9:=hid ((hg.block _ (jB QC8.out) (by have:=HNE.out.1;simpa using this)).trans QC8.out)
  have HK9:=hid (HK8.out.leaf hg NB.out.1)
  clear con g hg kp8
  obtain ⟨S9,h9,rfl,p9⟩|⟨er,h9,rfl⟩:=h
  case inr =>
   have HR:=hid (show setOne en S=.error er from HE7.out.trans (bind_error h9))
   clear h9
   go_wp2_with fail
   refine ⟨rfl,?_⟩
   rw [HPST.out]
   exact Or.inr ⟨_,HR.out,rfl,HK9.out⟩
  have HS9:=hid (show S9.s=S.s by rw [(must_state h9).1,HS7.out])
  have HE9:=hid (HE7.out.trans (bind_ok h9))
  have P9:=hid p9
  clear h9 p9
  have kp9:=jC HP9.out 0
  simp only [List.getElem?_toArray,List.getElem?_cons_zero] at kp9
  have con:=number_any P9.out
  go_wp2_with fail
  refine con.mono ?_
  rintro e w10 ⟨g,h⟩
  have hg:=g.g
  have HP10:=hid ((hg.block qp (jB HP9.out) (by have:=NB.out.2;simpa using this)).trans HP9.out)
  have QC10:=hid ((hg.block _ (jB QC9.out) (by have:=HNE.out.1;simpa using this)).trans QC9.out)
  have HK10:=hid (HK9.out.leaf hg NB.out.1)
  clear con g hg kp9
  obtain ⟨n,S3,h10,rfl,p10⟩|⟨er,h10,rfl⟩:=h
  case inr =>
   have HR:=hid (show setOne en S=.error er from HE9.out.trans (bind_error h10))
   clear h10
   go_wp2_with fail
   refine ⟨rfl,?_⟩
   rw [HPST.out]
   exact Or.inr ⟨_,HR.out,rfl,HK10.out⟩
  have HLE:=hid (show S3.s.sets.length<=i/\i<=1000 by rw [number_keeps h10,HS9.out];exact HLE0.out)
  have HE3:=hid (show setOne en S=.ok ((),{ S3 with s:={ S3.s with sets:=S3.s.sets ++ [⟨nm,dn,⟨1,n,noStr⟩⟩] } }) from HE9.out.trans (bind_ok h10))
  have P10:=hid p10
  clear h10 p10
  have qc2:=jC QC10.out 2
  have fc2:=free_of QC10.out 2
  have qc3:=jC QC10.out 3
  have fc3:=free_of QC10.out 3
  have qc4:=jC QC10.out 4
  have fc4:=free_of QC10.out 4
  simp only [gT,gZ,gS] at qc2 qc3 qc4
  have g11:=grown_set3' w10 w2.heap.size (.int .i64 1) (.int .i64 n) (.string ⟨#[]⟩)
  have P11:=hid (P10.out.other HY3.out.2.2 HNE.out.2 g11)
  have HP11:=hid ((g11.block qp (jB HP10.out) (by have:=HQP.out;simpa using this)).trans HP10.out)
  have QC11:=hid (heap_set3' QC10.out (.int .i64 1) (.int .i64 n) (.string ⟨#[]⟩))
  have HK11:=hid (HK10.out.trans (grown_kept g11 fun k e=>by cases e;exact HXN.out))
  clear g11
  go_upto_region 7 with (fail)
  clear hw3
  obtain ⟨w3,hw3⟩:∃ x,x=World.setCell (World.setCell (World.setCell (w10) ⟨w2.heap.size,2,none⟩ (.int .i64 1)) ⟨w2.heap.size,3,none⟩ (.int .i64 n)) ⟨w2.heap.size,4,none⟩ (.string ⟨#[]⟩):=⟨_,rfl⟩
  rw [<- hw3] at P11 HP11 QC11 HK11 ⊢
  have P3:=P11
  have HPW3:=HP11
  have Q3:=QC11
  have HK3:=HK11
  clear hw3 qc2 qc3 qc4 fc2 fc3 fc4 HP11 HK11 QC11 P11
  obtain ⟨ta,tc,L,hbx,hsl,hls⟩:=P3.out.open
  obtain ⟨ca,cc,hcv,_⟩:=owns_shape' hls.sets.1
  have TJ3:=hid (show TJ b qp 8 L.sets w3 from ⟨HPW3.out,by simpa [boxC] using jC hbx 8,free_of hbx 8⟩)
  have HBX:=hid hbx
  have HSL:=hid hsl
  have HLS:=hid hls
  have NY:=hid (show ∀ q,L.sets.ownBlock=some q->¬ Y3 q from hls.sets.2)
  clear hbx hsl hls
  rw [hcv] at TJ3 NY
  have HCV:=hid hcv
  clear hcv
  refine wp_region_loose2 [([0,1,2,3,4,5],6),([],7),([],8)] (TJ b qp 8 (.slice ca S3.s.sets.length cc)) (Below w3.heap.size w3) (by kernel_rfl) (by kernel_rfl) (by kernel_rfl) (fun w1 w2 h b=>h.trans (b.mono h.size)) (Below.drew b0R) ?_
  apply wpSegs_cons (fun w'=>TJ b qp 8 (.slice ca S3.s.sets.length cc) w'/\w'.heap[w2.heap.size]? = some (.cells #[.string nm,.string dn,.int .i64 1,.int .i64 n,.string ⟨#[]⟩] 54 (0,0))) (T6sets #[.string nm,.string dn,.int .i64 1,.int .i64 n,.string ⟨#[]⟩] w3) (fun _ h=>h.1) (fun w' h=>⟨TJ3.out.below h,(h.block _ (jB Q3.out)).trans Q3.out⟩)
  case hq =>
   intro w1 hw1
   have ne:Nonempty (Wld (Below w1.heap.size w1)):=⟨⟨w1,Below.refl _ _⟩⟩
   have c0:=fun x:Wld (Below w1.heap.size w1)=>jC (hw1.1.below x.good).1 0
   have c1:=fun x:Wld (Below w1.heap.size w1)=>(hw1.1.below x.good).2.1
   have cc':=fun (x:Wld (Below w1.heap.size w1)) (t:Nat)=>jC ((x.good.block _ (jB hw1.2)).trans hw1.2) t
   have e0:=fun (x:Wld (Below w1.heap.size w1))=>cc' x 0
   have e1:=fun (x:Wld (Below w1.heap.size w1))=>cc' x 1
   have e2:=fun (x:Wld (Below w1.heap.size w1))=>cc' x 2
   have e3:=fun (x:Wld (Below w1.heap.size w1))=>cc' x 3
   have e4:=fun (x:Wld (Below w1.heap.size w1))=>cc' x 4
   simp only [gT,gZ,gS] at c0 e0 e1 e2 e3 e4
   clear cc'
   simp only [pickOps,List.getElem?_cons_zero,List.getElem?_cons_succ]
   apply quiet_hide
   intro KE hKE
   repeat (go_big_quiet_step (fail))
   refine wpQuiet_nil ?_
   exact hKE _ rfl
  case ho=>rfl
  case hop=>rfl
  case hw=>kernel_rfl
  case hD=>exact fun u w1 w2 ⟨g,h1,h2,h3⟩ hb=>⟨g,h1,(hb.block _ (jB h2)).trans h2,h3.trans (hb.mono h3.size)⟩
  case hDJ=>exact fun _ u w' ⟨g,h1,h2,h3⟩=>⟨TJ3.out.below h3,(h3.block _ (jB Q3.out)).trans Q3.out⟩
  case hlo =>
   intro wa ba
   go_wp2_with fail
   exact ⟨wa.heap.size,rfl,heap_alloc_new _ _,ba.alloc ba.size _⟩
  case hrest =>
   rintro u2 w4 ⟨g,rfl,-,-⟩
   simp only [Act.put,List.setIfInBounds_toArray,List.set_cons_succ,List.set_cons_zero]
   apply wpSegs_cons0 (T7sets b qp 8 (S3.s.sets.length+1) (.slice ca S3.s.sets.length cc) (S3.s.sets.flatMap setEnc ++ #[.string nm,.string dn,.int .i64 1,.int .i64 n,.string ⟨#[]⟩].toList) w3)
   case hCI=>exact fun w' ⟨g,h1,h2,h3⟩=>⟨TJ3.out.below h3,(h3.block _ (jB Q3.out)).trans Q3.out⟩
   case ho=>rfl
   case hop=>rfl
   case hw=>kernel_rfl
   case hD=>exact fun u w1 w2 ⟨wa,h1,h2,h3,h4,h5⟩ hb=>⟨wa,h1,owns_below h2 hb,grown_then h3 hb,h4,h5.below hb⟩
   case hDI =>
    rintro - u w' ⟨wa,h1,h2,h3,h4,h5⟩
    exact ⟨h5,(h3.block _ (jL (jB Q3.out) h1.size) fun e=>NY.out _ e.symm HY3.out.2.2).trans ((h1.block _ (jB Q3.out)).trans Q3.out)⟩
   case hlo =>
    rintro wa ⟨g',e,hq',ba⟩
    obtain rfl:g=g':=by simpa using e
    clear e
    have hva:wa.ownsRow 0 54 5 (.slice ca S3.s.sets.length cc) S3.s.sets.length (S3.s.sets.flatMap setEnc):=by
     have:=owns_below HLS.out.sets.1 ba
     rwa [HCV.out] at this
    refine wpList_append_own_at _ rfl _ _ 30 rfl 0 54 i0 _ 5 64 Tryz.underlying30 hi0 hz0 hz1 hz2 rfl (by decide) _ S3.s.sets.length _ rfl hva ⟨g,0,none⟩ 1 1 #[.string nm,.string dn,.int .i64 1,.int .i64 n,.string ⟨#[]⟩].toList rfl rfl (fun j u hj=>by rw [addr_add,jC hq'];simpa using hj) (fun u hu=>by simp only [List.mem_cons,List.not_mem_nil,or_false] at hu;rcases hu with rfl|rfl|rfl|rfl|rfl <;> rfl) (by unfold maxLen;have:=HLE.out;omega) (by have:=HLE.out;omega) (Nat.zero_le _) ?_
    intro v1 w5 o1 g1 hx1 at1
    have hj:=TJ3.out.below ba
    have hbw:=(ba.block b P3.out.lt_box).trans HBX.out
    exact wpList_nil ⟨rfl,_,rfl,wa,ba,o1,g1,at1,(g1.block _ (jB hj.1) fun e=>NY.out _ e.symm HY3.out.2.1).trans hj.1,(World.cell?_of_block (w:=wa) (g1.block b (jL P3.out.lt_box ba.size) fun e=>row_not hbw hva (by decide) e)).trans hj.2.1,(World.frozen?_of_block (w:=wa) (g1.block b (jL P3.out.lt_box ba.size) fun e=>row_not hbw hva (by decide) e)).trans hj.2.2⟩
   case hrest =>
    rintro u5 w5 ⟨wa,-,o5,-,-,-⟩
    obtain ⟨ua,uc,rfl,_⟩:=owns_shape' o5
    clear o5
    simp only [Act.put,List.setIfInBounds_toArray,List.set_cons_succ,List.set_cons_zero]
    apply wpSegs_assign
    case hC=>exact fun w1 w2 ⟨wa,h1,h2,h3,h4,h5⟩ hb=>⟨wa,h1,owns_below h2 hb,grown_then h3 hb,h4,h5.below hb⟩
    case hCI =>
     rintro w' ⟨wa,h1,h2,h3,h4,h5⟩
     exact ⟨h5,(h3.block _ (jL (jB Q3.out) h1.size) fun e=>NY.out _ e.symm HY3.out.2.2).trans ((h1.block _ (jB Q3.out)).trans Q3.out)⟩
    case ho=>rfl
    case hop=>rfl
    case hw=>kernel_rfl
    case hj=>rfl
    case hrest =>
     rintro w6 ⟨wa,ba,o6,g6,at6,hj6⟩
     have c0:=jC hj6.1 0
     have c1:=hj6.2.1
     have f1:=hj6.2.2
     simp only [List.getElem?_toArray,List.getElem?_cons_zero] at c0
     have O6:=hid (show _/\_/\_/\_ from ⟨ba,o6,g6,at6⟩)
     have HPW6:=hid hj6.1
     clear ba o6 g6 at6 hj6
     go_wp2_with fail
     go_end0
     rw [HPST.out]
     obtain ⟨ba,o6,g6,at6⟩:=O6.out
     rw [<- HCV.out] at g6 at6
     obtain ⟨pf,kf⟩:=(P3.out.below ba).add_sets (x:=⟨nm,dn,⟨1,n,noStr⟩⟩) ((ba.block b P3.out.lt_box).trans HBX.out) (HSL.out.below ba) (HLS.out.below ba) o6 g6 at6
     refine Or.inl ⟨_,HE3.out,rfl,(kf.block qp HY3.out.2.1 (jL (jB HPW3.out) ba.size)).trans ((ba.block _ (jB HPW3.out)).trans HPW3.out),⟨Y3,pf,HY3.out.1,HY3.out.2.1⟩,(HK3.out.trans (Below.kept ba X)).trans (kf.weaken fun k _ hk=>HY3.out.1 k hk),?_⟩
     show (S3.s.sets ++ [_]).length<=i+1
     rw [List.length_append]
     have:=HLE.out
     simp
     omega
 | false =>
  have HE6:=hid (HE4.out.trans (congrFun (if_neg (by rw [hna];exact Bool.false_ne_true)) S4))
  clear hna
  have kp6:=jC HP6.out 0
  simp only [List.getElem?_toArray,List.getElem?_cons_zero] at kp6
  have con:=value_any P6.out
  go_wp2_with fail
  refine con.mono ?_
  rintro e w7 ⟨g,h⟩
  have hg:=g.g
  have HP7:=hid ((hg.block qp (jB HP6.out) (by have:=NB.out.2;simpa using this)).trans HP6.out)
  have QC7:=hid ((hg.block _ (jB QC6.out) (by have:=HNE.out.1;simpa using this)).trans QC6.out)
  have HK7:=hid (HK6.out.leaf hg NB.out.1)
  clear con g hg kp6
  obtain ⟨⟨vk,vn,vs⟩,S3,h7,rfl,p7⟩|⟨er,h7,rfl⟩:=h
  case inr =>
   have HR:=hid (show setOne en S=.error er from HE6.out.trans (bind_error h7))
   clear h7
   go_wp2_with fail
   refine ⟨rfl,?_⟩
   rw [HPST.out]
   exact Or.inr ⟨_,HR.out,rfl,HK7.out⟩
  have HLE:=hid (show S3.s.sets.length<=i/\i<=1000 by rw [(value_keeps h7).1,HS4.out];exact HLE0.out)
  have HE3:=hid (show setOne en S=.ok ((),{ S3 with s:={ S3.s with sets:=S3.s.sets ++ [⟨nm,noStr,⟨vk,vn,vs⟩⟩] } }) from HE6.out.trans (bind_ok h7))
  have P7:=hid p7
  clear h7 p7
  unfold Val.enc
  have qc2:=jC QC7.out 2
  have fc2:=free_of QC7.out 2
  have qc3:=jC QC7.out 3
  have fc3:=free_of QC7.out 3
  have qc4:=jC QC7.out 4
  have fc4:=free_of QC7.out 4
  simp only [gT,gZ,gS] at qc2 qc3 qc4
  have g11:=grown_set3' w7 w2.heap.size (.int .i64 vk) (.int .i64 vn) (.string vs)
  have P11:=hid (P7.out.other HY3.out.2.2 HNE.out.2 g11)
  have HP11:=hid ((g11.block qp (jB HP7.out) (by have:=HQP.out;simpa using this)).trans HP7.out)
  have QC11:=hid (heap_set3' QC7.out (.int .i64 vk) (.int .i64 vn) (.string vs))
  have HK11:=hid (HK7.out.trans (grown_kept g11 fun k e=>by cases e;exact HXN.out))
  clear g11
  go_upto_region 7 with (fail)
  clear hw3
  obtain ⟨w3,hw3⟩:∃ x,x=World.setCell (World.setCell (World.setCell (w7) ⟨w2.heap.size,2,none⟩ (.int .i64 vk)) ⟨w2.heap.size,3,none⟩ (.int .i64 vn)) ⟨w2.heap.size,4,none⟩ (.string vs):=⟨_,rfl⟩
  rw [<- hw3] at P11 HP11 QC11 HK11 ⊢
  have P3:=P11
  have HPW3:=HP11
  have Q3:=QC11
  have HK3:=HK11
  clear hw3 qc2 qc3 qc4 fc2 fc3 fc4 HP11 HK11 QC11 P11
  obtain ⟨ta,tc,L,hbx,hsl,hls⟩:=P3.out.open
  obtain ⟨ca,cc,hcv,_⟩:=owns_shape' hls.sets.1
  have TJ3:=hid (show TJ b qp 8 L.sets w3 from ⟨HPW3.out,by simpa [boxC] using jC hbx 8,free_of hbx 8⟩)
  have HBX:=hid hbx
  have HSL:=hid hsl
  have HLS:=hid hls
  have NY:=hid (show ∀ q,L.sets.ownBlock=some q->¬ Y3 q from hls.sets.2)
  clear hbx hsl hls
  rw [hcv] at TJ3 NY
  have HCV:=hid hcv
  clear hcv
  refine wp_region_loose2 [([0,1,2,3,4,5],6),([],7),([],8)] (TJ b qp 8 (.slice ca S3.s.sets.length cc)) (Below w3.heap.size w3) (by kernel_rfl) (by kernel_rfl) (by kernel_rfl) (fun w1 w2 h b=>h.trans (b.mono h.size)) (Below.drew b0R) ?_
  apply wpSegs_cons (fun w'=>TJ b qp 8 (.slice ca S3.s.sets.length cc) w'/\w'.heap[w2.heap.size]? = some (.cells #[.string nm,.string ⟨#[]⟩,.int .i64 vk,.int .i64 vn,.string vs] 54 (0,0))) (T6sets #[.string nm,.string ⟨#[]⟩,.int .i64 vk,.int .i64 vn,.string vs] w3) (fun _ h=>h.1) (fun w' h=>⟨TJ3.out.below h,(h.block _ (jB Q3.out)).trans Q3.out⟩)
  case hq =>
   intro w1 hw1
   have ne:Nonempty (Wld (Below w1.heap.size w1)):=⟨⟨w1,Below.refl _ _⟩⟩
   have c0:=fun x:Wld (Below w1.heap.size w1)=>jC (hw1.1.below x.good).1 0
   have c1:=fun x:Wld (Below w1.heap.size w1)=>(hw1.1.below x.good).2.1
   have cc':=fun (x:Wld (Below w1.heap.size w1)) (t:Nat)=>jC ((x.good.block _ (jB hw1.2)).trans hw1.2) t
   have e0:=fun (x:Wld (Below w1.heap.size w1))=>cc' x 0
   have e1:=fun (x:Wld (Below w1.heap.size w1))=>cc' x 1
   have e2:=fun (x:Wld (Below w1.heap.size w1))=>cc' x 2
   have e3:=fun (x:Wld (Below w1.heap.size w1))=>cc' x 3
   have e4:=fun (x:Wld (Below w1.heap.size w1))=>cc' x 4
   simp only [gT,gZ,gS] at c0 e0 e1 e2 e3 e4
   clear cc'
   simp only [pickOps,List.getElem?_cons_zero,List.getElem?_cons_succ]
   apply quiet_hide
   intro KE hKE
   repeat (go_big_quiet_step (fail))
   refine wpQuiet_nil ?_
   exact hKE _ rfl
  case ho=>rfl
  case hop=>rfl
  case hw=>kernel_rfl
  case hD=>exact fun u w1 w2 ⟨g,h1,h2,h3⟩ hb=>⟨g,h1,(hb.block _ (jB h2)).trans h2,h3.trans (hb.mono h3.size)⟩
  case hDJ=>exact fun _ u w' ⟨g,h1,h2,h3⟩=>⟨TJ3.out.below h3,(h3.block _ (jB Q3.out)).trans Q3.out⟩
  case hlo =>
   intro wa ba
   go_wp2_with fail
   exact ⟨wa.heap.size,rfl,heap_alloc_new _ _,ba.alloc ba.size _⟩
  case hrest =>
   rintro u2 w4 ⟨g,rfl,-,-⟩
   simp only [Act.put,List.setIfInBounds_toArray,List.set_cons_succ,List.set_cons_zero]
   apply wpSegs_cons0 (T7sets b qp 8 (S3.s.sets.length+1) (.slice ca S3.s.sets.length cc) (S3.s.sets.flatMap setEnc ++ #[.string nm,.string ⟨#[]⟩,.int .i64 vk,.int .i64 vn,.string vs].toList) w3)
   case hCI=>exact fun w' ⟨g,h1,h2,h3⟩=>⟨TJ3.out.below h3,(h3.block _ (jB Q3.out)).trans Q3.out⟩
   case ho=>rfl
   case hop=>rfl
   case hw=>kernel_rfl
   case hD=>exact fun u w1 w2 ⟨wa,h1,h2,h3,h4,h5⟩ hb=>⟨wa,h1,owns_below h2 hb,grown_then h3 hb,h4,h5.below hb⟩
   case hDI =>
    rintro - u w' ⟨wa,h1,h2,h3,h4,h5⟩
    exact ⟨h5,(h3.block _ (jL (jB Q3.out) h1.size) fun e=>NY.out _ e.symm HY3.out.2.2).trans ((h1.block _ (jB Q3.out)).trans Q3.out)⟩
   case hlo =>
    rintro wa ⟨g',e,hq',ba⟩
    obtain rfl:g=g':=by simpa using e
    clear e
    have hva:wa.ownsRow 0 54 5 (.slice ca S3.s.sets.length cc) S3.s.sets.length (S3.s.sets.flatMap setEnc):=by
     have:=owns_below HLS.out.sets.1 ba
     rwa [HCV.out] at this
    refine wpList_append_own_at _ rfl _ _ 30 rfl 0 54 i0 _ 5 64 Tryz.underlying30 hi0 hz0 hz1 hz2 rfl (by decide) _ S3.s.sets.length _ rfl hva ⟨g,0,none⟩ 1 1 #[.string nm,.string ⟨#[]⟩,.int .i64 vk,.int .i64 vn,.string vs].toList rfl rfl (fun j u hj=>by rw [addr_add,jC hq'];simpa using hj) (fun u hu=>by simp only [List.mem_cons,List.not_mem_nil,or_false] at hu;rcases hu with rfl|rfl|rfl|rfl|rfl <;> rfl) (by unfold maxLen;have:=HLE.out;omega) (by have:=HLE.out;omega) (Nat.zero_le _) ?_
    intro v1 w5 o1 g1 hx1 at1
    have hj:=TJ3.out.below ba
    have hbw:=(ba.block b P3.out.lt_box).trans HBX.out
    exact wpList_nil ⟨rfl,_,rfl,wa,ba,o1,g1,at1,(g1.block _ (jB hj.1) fun e=>NY.out _ e.symm HY3.out.2.1).trans hj.1,(World.cell?_of_block (w:=wa) (g1.block b (jL P3.out.lt_box ba.size) fun e=>row_not hbw hva (by decide) e)).trans hj.2.1,(World.frozen?_of_block (w:=wa) (g1.block b (jL P3.out.lt_box ba.size) fun e=>row_not hbw hva (by decide) e)).trans hj.2.2⟩
   case hrest =>
    rintro u5 w5 ⟨wa,-,o5,-,-,-⟩
    obtain ⟨ua,uc,rfl,_⟩:=owns_shape' o5
    clear o5
    simp only [Act.put,List.setIfInBounds_toArray,List.set_cons_succ,List.set_cons_zero]
    apply wpSegs_assign
    case hC=>exact fun w1 w2 ⟨wa,h1,h2,h3,h4,h5⟩ hb=>⟨wa,h1,owns_below h2 hb,grown_then h3 hb,h4,h5.below hb⟩
    case hCI =>
     rintro w' ⟨wa,h1,h2,h3,h4,h5⟩
     exact ⟨h5,(h3.block _ (jL (jB Q3.out) h1.size) fun e=>NY.out _ e.symm HY3.out.2.2).trans ((h1.block _ (jB Q3.out)).trans Q3.out)⟩
    case ho=>rfl
    case hop=>rfl
    case hw=>kernel_rfl
    case hj=>rfl
    case hrest =>
     rintro w6 ⟨wa,ba,o6,g6,at6,hj6⟩
     have c0:=jC hj6.1 0
     have c1:=hj6.2.1
     have f1:=hj6.2.2
     simp only [List.getElem?_toArray,List.getElem?_cons_zero] at c0
     have O6:=hid (show _/\_/\_/\_ from ⟨ba,o6,g6,at6⟩)
     have HPW6:=hid hj6.1
     clear ba o6 g6 at6 hj6
     go_wp2_with fail
     go_end0
     rw [HPST.out]
     obtain ⟨ba,o6,g6,at6⟩:=O6.out
     rw [<- HCV.out] at g6 at6
     obtain ⟨pf,kf⟩:=(P3.out.below ba).add_sets (x:=⟨nm,noStr,⟨vk,vn,vs⟩⟩) ((ba.block b P3.out.lt_box).trans HBX.out) (HSL.out.below ba) (HLS.out.below ba) o6 g6 at6
     refine Or.inl ⟨_,HE3.out,rfl,(kf.block qp HY3.out.2.1 (jL (jB HPW3.out) ba.size)).trans ((ba.block _ (jB HPW3.out)).trans HPW3.out),⟨Y3,pf,HY3.out.1,HY3.out.2.1⟩,(HK3.out.trans (Below.kept ba X)).trans (kf.weaken fun k _ hk=>HY3.out.1 k hk),?_⟩
     show (S3.s.sets ++ [_]).length<=i+1
     rw [List.length_append]
     have:=HLE.out
     simp
     omega
end
end Go.Proofs.YtjcpccadmcglgaaGreatDoor
