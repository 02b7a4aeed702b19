/- The parser in memory: its tokens, its statement, its own lists; how a call of it ends. -/
import Derived.Test.YtjcpccadmcglgaaGreatDoorZK13
import Derived.Test.YtjcpccadmcglgaaGreatDoorZK2
import Derived.Test.YtjcpccadmcglgaaGreatDoorZK5
import Derived.Test.YtjcpccadmcglgaaGreatDoorZK10
import Derived.Deep.AppendLies
import Derived.Maps.AppendAt
import Derived.Maps.RangeWalk
import Derived.Lib.LaidTab
import Derived.Lib.Space
import Derived.Lib.ItoaNum
set_option linter.unusedVariables false
set_option linter.unusedSimpArgs false
set_option maxRecDepth 100000
set_option maxHeartbeats 64000000
namespace Go.Proofs.YtjcpccadmcglgaaGreatDoor
section
open Go.RowKit
def tokEnc (t:Tok):List Value:=[.int .i64 t.kind,.int .i64 t.pos,.string t.text,.int .i64 t.n]
def Tok.enc (t:Tok):Value:=.agg #[.int .i64 t.kind,.int .i64 t.pos,.string t.text,.int .i64 t.n]
def tokR:Rep Tok:=flatR 4 tokEnc fun _=>rfl
structure TokOk (t:Tok):Prop where
 null:t.kind=4->t.text ≠ w_null
 size:t.text.size<=4294967000
 lo:-9223372036854775808<=t.n
 hi:t.n<=9223372036854775807
abbrev trouble (e:PErr):Ending:=.panicked [{ v:=.iface 108 (.agg #[.int .i64 e.1,.int .i64 e.2]),recovered:=false }]
def Own1 (X:Nat->Prop) (w:World) (e:TypeId) (sz:Nat) (v:Value) (n:Nat) (xs:List Value):Prop :=
 w.ownsRow 0 e sz v n xs/\∀ g,v.ownBlock=some g->¬ X g
structure Lists where
 cols:Value
 names:Value
 row:Value
 sets:Value
 wher:Value
 order:Value
structure LsAt (X:Nat->Prop) (w:World) (L:Lists) (s:Stmt):Prop where
 cols:Own1 X w 62 2 L.cols s.cols.length (s.cols.flatMap colEnc)
 names:Own1 X w 9 1 L.names s.names.length (s.names.flatMap strEnc)
 row:Own1 X w 50 3 L.row s.row.length (s.row.flatMap valEnc)
 sets:Own1 X w 54 5 L.sets s.sets.length (s.sets.flatMap setEnc)
 wher:Own1 X w 52 5 L.wher s.wher.length (s.wher.flatMap condEnc)
 order:Own1 X w 9 1 L.order s.order.length (s.order.flatMap strEnc)
def boxC (tv:Value) (en:Nat) (L:Lists) (s:Stmt):Array Value :=
 #[tv,.int .i64 en,.int .i64 s.kind,.string s.table,.string s.name,L.cols,L.names,L.row,L.sets,L.wher,.string s.join,.string s.left,.string s.right,.int .i64 s.agg,L.order,.int .i64 s.mode,.int .i64 s.n]
structure EnvL (w:World):Prop where
 max:∃ m,w.cell? ⟨1,0,none⟩=some (.int .i64 m)
 sp:Lib.TabIs Tryz.prog w "strings.asciiSpace" .u8 Lib.asciiSpaceTab
 pow:Lib.TabIs Tryz.prog w "internal/strconv.uint64pow10" .u64 Lib.pow10Tab
 rng:∃ ev,w.cell? ⟨4,0,none⟩=some ev/\(ev=.nilIface \/ ∃ te pe,ev=.iface te pe)
theorem tab_same {w w':World} {name:String} {k:IntKind} {zs:List Int} {g:Nat} (h:Lib.TabIs Tryz.prog w name k zs) (hn:Tryz.prog.globalNamed name=some g) (hg:w'.heap[g]? = w.heap[g]?):Lib.TabIs Tryz.prog w' name k zs:=by
 unfold Lib.TabIs World.var? at h ⊢
 rw [hn] at h ⊢
 simp only [Option.bind_some] at h ⊢
 rw [hg]
 exact h
theorem tab_lt {w:World} {name:String} {k:IntKind} {zs:List Int} {g:Nat} (h:Lib.TabIs Tryz.prog w name k zs) (hn:Tryz.prog.globalNamed name=some g):g<w.heap.size:=by
 unfold Lib.TabIs World.var? at h
 rw [hn] at h
 simp only [Option.bind_some] at h
 rcases Nat.lt_or_ge g w.heap.size with h'|h'
 · exact h'
 · rw [Array.getElem?_eq_none h'] at h
   cases h
theorem EnvL.lt {w:World} (h:EnvL w):1<w.heap.size/\4<w.heap.size/\0<w.heap.size/\5<w.heap.size:=by
 obtain ⟨m,hm⟩:=h.max
 obtain ⟨ev,hv,_⟩:=h.rng
 exact ⟨World.block_lt_of_cell? _ _ hm,World.block_lt_of_cell? _ _ hv,tab_lt h.sp (by kernel_rfl),tab_lt h.pow (by kernel_rfl)⟩
def Glob (k:Nat):Prop:=k=1 \/ k=4 \/ k=0 \/ k=5
instance (k:Nat):Decidable (Glob k):=by unfold Glob;infer_instance
theorem EnvL.same {w w':World} (h:EnvL w) (hk:∀ k,Glob k->k<w.heap.size->w'.heap[k]? = w.heap[k]?):EnvL w':=by
 obtain ⟨l1,l2,l3,l4⟩:=h.lt
 obtain ⟨m,hm⟩:=h.max
 obtain ⟨ev,hv,hx⟩:=h.rng
 exact ⟨⟨m,(World.cell?_of_block (hk _ (by decide) l1)).trans hm⟩,tab_same h.sp (by kernel_rfl) (hk _ (by decide) l3),tab_same h.pow (by kernel_rfl) (hk _ (by decide) l4),⟨ev,(World.cell?_of_block (hk _ (by decide) l2)).trans hv,hx⟩⟩
theorem EnvL.below {w w':World} (h:EnvL w) (hb:Below w.heap.size w w'):EnvL w':=h.same fun k _ hk=>hb.block k hk
structure PAt (X:Nat->Prop) (b en:Nat) (S:PS) (w:World):Prop where
 env:EnvL w
 glob:∀ k,Glob k->k<b
 old:∀ k,k<b->X k
 lt:∀ k,X k->k<w.heap.size
 nb:¬ X b
 box:∃ tv L,w.heap[b]? = some (.cells (boxC tv en L S.s) 65 (0,0))/\SlV tokR (fun k=>k<b) w tv S.l/\LsAt X w L S.s
 tok:∀ t ∈ S.l,TokOk t
theorem Own1.kept {X:Nat->Prop} {w w':World} {e:TypeId} {sz:Nat} {v:Value} {n:Nat} {xs:List Value} (h:Own1 X w e sz v n xs) {b:Nat} {cs:Array Value} {T:TypeId} (hb:w.heap[b]? = some (.cells cs T (0,0))) (hT:T ≠ e) (g:w.grownBy w' (some b)):Own1 X w' e sz v n xs :=
 ⟨h.1.kept g (Or.inr fun e'=>row_not hb h.1 hT e'.symm),h.2⟩
theorem Own1.below {X:Nat->Prop} {w w':World} {e:TypeId} {sz:Nat} {v:Value} {n:Nat} {xs:List Value} (h:Own1 X w e sz v n xs) (g:Below w.heap.size w w'):Own1 X w' e sz v n xs:=⟨owns_below h.1 g,h.2⟩
theorem LsAt.kept {X:Nat->Prop} {w w':World} {L:Lists} {s:Stmt} (h:LsAt X w L s) {b:Nat} {cs:Array Value} {T:TypeId} (hb:w.heap[b]? = some (.cells cs T (0,0)))
 (h1:T ≠ 62) (h2:T ≠ 9) (h3:T ≠ 50) (h4:T ≠ 54) (h5:T ≠ 52) (g:w.grownBy w' (some b)):LsAt X w' L s :=
 ⟨h.cols.kept hb h1 g,h.names.kept hb h2 g,h.row.kept hb h3 g,h.sets.kept hb h4 g,h.wher.kept hb h5 g,h.order.kept hb h2 g⟩
theorem LsAt.below {X:Nat->Prop} {w w':World} {L:Lists} {s:Stmt} (h:LsAt X w L s) (g:Below w.heap.size w w'):LsAt X w' L s :=
 ⟨h.cols.below g,h.names.below g,h.row.below g,h.sets.below g,h.wher.below g,h.order.below g⟩
theorem PAt.lt_box {X:Nat->Prop} {b en:Nat} {S:PS} {w:World} (h:PAt X b en S w):b<w.heap.size:=by
 obtain ⟨tv,L,h1,_⟩:=h.box
 exact jB h1
theorem PAt.below {X:Nat->Prop} {b en:Nat} {S:PS} {w w':World} (h:PAt X b en S w) (g:Below w.heap.size w w'):PAt X b en S w':=by
 obtain ⟨tv,L,h1,h2,h3⟩:=h.box
 exact ⟨h.env.below g,h.glob,h.old,fun k hk=>jL (h.lt k hk) g.size,h.nb,⟨tv,L,(g.block _ (jB h1)).trans h1,h2.below g,h3.below g⟩,h.tok⟩
theorem Own1.weaken {X Y:Nat->Prop} {w:World} {e:TypeId} {sz:Nat} {v:Value} {n:Nat} {xs:List Value} (h:Own1 X w e sz v n xs) (hy:∀ k,k<w.heap.size->Y k->X k):Own1 Y w e sz v n xs :=
 ⟨h.1,fun g hg hY=>h.2 g hg (hy g (h.1.lt g hg).2 hY)⟩
theorem PAt.more {X Y:Nat->Prop} {b en:Nat} {S:PS} {w w':World} (h:PAt X b en S w) (g:Below w.heap.size w w') (hx:∀ k,X k->Y k) (hy:∀ k,Y k->X k \/ (w.heap.size<=k/\k<w'.heap.size)):PAt Y b en S w':=by
 obtain ⟨tv,L,h1,h2,h3⟩:=h.box
 have hk:∀ k,k<w.heap.size->Y k->X k:=fun k hk hY=>by
  rcases hy k hY with e|e
  · exact e
  · omega
 refine ⟨h.env.below g,h.glob,fun k hl=>hx k (h.old k hl),fun k hY=>?_,fun e=>h.nb (hk b (jB h1) e),⟨tv,L,(g.block _ (jB h1)).trans h1,h2.below g,?_⟩,h.tok⟩
 · rcases hy k hY with e|e
   · exact jL (h.lt k e) g.size
   · exact e.2
 · have h4:LsAt Y w L S.s:=⟨h3.cols.weaken hk,h3.names.weaken hk,h3.row.weaken hk,h3.sets.weaken hk,h3.wher.weaken hk,h3.order.weaken hk⟩
   exact h4.below g
theorem PAt.fewer {X Y:Nat->Prop} {b en:Nat} {S:PS} {w:World} (h:PAt X b en S w) (hx:∀ k,Y k->X k) (ho:∀ k,k<b->Y k):PAt Y b en S w:=by
 obtain ⟨tv,L,h1,h2,h3⟩:=h.box
 exact ⟨h.env,h.glob,ho,fun k hY=>h.lt k (hx k hY),fun e=>h.nb (hx b e),⟨tv,L,h1,h2,⟨h3.cols.weaken fun k _=>hx k,h3.names.weaken fun k _=>hx k,h3.row.weaken fun k _=>hx k,h3.sets.weaken fun k _=>hx k,h3.wher.weaken fun k _=>hx k,h3.order.weaken fun k _=>hx k⟩⟩,h.tok⟩
theorem Own1.other {X:Nat->Prop} {w w':World} {e:TypeId} {sz:Nat} {v:Value} {n:Nat} {xs:List Value} (h:Own1 X w e sz v n xs) {q:Nat} (hq:X q) (g:w.grownBy w' (some q)):Own1 X w' e sz v n xs:=by
 refine ⟨h.1.kept g (Or.inr fun e'=>?_),h.2⟩
 exact h.2 q e' hq
theorem PAt.other {X:Nat->Prop} {b en:Nat} {S:PS} {w w':World} (h:PAt X b en S w) {q:Nat} (hq:X q) (hb:b<q) (g:w.grownBy w' (some q)):PAt X b en S w':=by
 obtain ⟨tv,L,h1,h2,h3⟩:=h.box
 exact ⟨h.env.same fun k hk hl=>g.block k hl fun e=>by cases e;have:=h.glob _ hk;omega,h.glob,h.old,fun k hk=>jL (h.lt k hk) g.size,h.nb,
  ⟨tv,L,(g.block b (jB h1) fun e=>by cases e;omega).trans h1,h2.keep fun k hk hl=>g.block k hl fun e=>by cases e;omega,⟨h3.cols.other hq g,h3.names.other hq g,h3.row.other hq g,h3.sets.other hq g,h3.wher.other hq g,h3.order.other hq g⟩⟩,h.tok⟩
theorem PAt.grow {X:Nat->Prop} {b en:Nat} {S:PS} {w w':World} {r:Option Nat} (h:PAt X b en S w) (hr:∀ q,r=some q->X q/\b<q) (g:w.grownBy w' r):PAt (fun k=>X k \/ (w.heap.size<=k/\k<w'.heap.size)) b en S w':=by
 have h1:=h.below (w':=w) b0R
 obtain ⟨tv,L,e1,e2,e3⟩:=h1.box
 have nr:∀ k,k<b \/ k=b->some k ≠ r:=fun k hk e=>by
  have:=(hr k e.symm).2
  omega
 have own:∀ {e:TypeId} {sz:Nat} {v:Value} {n:Nat} {xs:List Value},Own1 X w e sz v n xs->Own1 (fun k=>X k \/ (w.heap.size<=k/\k<w'.heap.size)) w' e sz v n xs:=by
  intro e sz v n xs ho
  refine ⟨ho.1.kept g ?_,fun q hq hx=>?_⟩
  · cases hc:v.ownBlock with
    | none=>exact Or.inl rfl
    | some q =>
     refine Or.inr fun e=>?_
     exact ho.2 q hc (hr q e.symm).1
  · rcases hx with hx|hx
    · exact ho.2 q hq hx
    · have:=(ho.1.lt q hq).2;omega
 exact ⟨h.env.same fun k hk hl=>g.block k hl (nr k (Or.inl (h.glob _ hk))),h.glob,fun k hk=>Or.inl (h.old k hk),fun k hk=>by
  rcases hk with hk|hk
  · exact jL (h.lt k hk) g.size
  · exact hk.2,fun hx=>by
  rcases hx with hx|hx
  · exact h.nb hx
  · have:=h.lt_box;omega,
  ⟨tv,L,(g.block b (jB e1) (nr b (Or.inr rfl))).trans e1,e2.keep fun k hk hl=>g.block k hl (nr k (Or.inl hk)),⟨own e3.cols,own e3.names,own e3.row,own e3.sets,own e3.wher,own e3.order⟩⟩,h.tok⟩
theorem grown_set (w:World) (q j:Nat) (v:Value):w.grownBy (w.setCell ⟨q,j,none⟩ v) (some q):=by
 have hb:Below q w (w.setCell ⟨q,j,none⟩ v):=(Below.refl q w).setCell (p:=⟨q,j,none⟩) (jR _) v
 exact ⟨hb.os,hb.tape,hb.output,hb.size,fun c _ hc=>Below.heap_setCell w ⟨q,j,none⟩ v c (fun e=>hc (by rw [e]))⟩
theorem grown_new {w w1 w2:World} {r:Option Nat} {q:Nat} (h:w.grownBy w1 r) (hq:w.heap.size<=q) (g:w1.grownBy w2 (some q)):w.grownBy w2 r :=
 ⟨g.os.trans h.os,g.tape.trans h.tape,g.output.trans h.output,Nat.le_trans h.size g.size,fun k hk hr=>(g.block k (jL hk h.size) fun e=>by cases e;omega).trans (h.block k hk hr)⟩
structure Kept (X:Nat->Prop) (w w':World):Prop where
 os:w'.os=w.os
 tape:w'.tape=w.tape
 output:w'.output=w.output
 size:w.heap.size<=w'.heap.size
 block:∀ k,X k->k<w.heap.size->w'.heap[k]? = w.heap[k]?
theorem Kept.refl (X:Nat->Prop) (w:World):Kept X w w:=⟨rfl,rfl,rfl,jR _,fun _ _ _=>rfl⟩
theorem Kept.trans {X:Nat->Prop} {a b c:World} (h:Kept X a b) (k:Kept X b c):Kept X a c :=
 ⟨k.os.trans h.os,k.tape.trans h.tape,k.output.trans h.output,Nat.le_trans h.size k.size,fun i hi hl=>(k.block i hi (jL hl h.size)).trans (h.block i hi hl)⟩
theorem Kept.weaken {X Y:Nat->Prop} {a b:World} (h:Kept X a b) (hy:∀ k,k<a.heap.size->Y k->X k):Kept Y a b :=
 ⟨h.os,h.tape,h.output,h.size,fun i hi hl=>h.block i (hy i hl hi) hl⟩
theorem Below.kept {w w':World} (h:Below w.heap.size w w') (X:Nat->Prop):Kept X w w':=⟨h.os,h.tape,h.output,h.size,fun k _ hl=>h.block k hl⟩
theorem grown_kept {w w':World} {r:Option Nat} (h:w.grownBy w' r) {X:Nat->Prop} (hr:∀ k,r=some k->¬ X k):Kept X w w':=⟨h.os,h.tape,h.output,h.size,fun k hk hl=>h.block k hl fun e=>hr k e.symm hk⟩
theorem below_grown {w w':World} (h:Below w.heap.size w w') (r:Option Nat):w.grownBy w' r:=⟨h.os,h.tape,h.output,h.size,fun k hl _=>h.block k hl⟩
structure Turn (b:Nat) (w w':World):Prop where
 g:w.grownBy w' (some b)
 c:∀ j,j ≠ 0->w'.cell? ⟨b,j,none⟩=w.cell? ⟨b,j,none⟩
theorem Turn.refl (b:Nat) (w:World):Turn b w w:=⟨⟨rfl,rfl,rfl,jR _,fun _ _ _=>rfl⟩,fun _ _=>rfl⟩
theorem Turn.trans {b:Nat} {w w1 w2:World} (h:Turn b w w1) (k:Turn b w1 w2):Turn b w w2:=⟨h.g.trans k.g,fun j hj=>(k.c j hj).trans (h.c j hj)⟩
theorem turn_below {b:Nat} {w w':World} (hb:b<w.heap.size) (h:Below w.heap.size w w'):Turn b w w':=⟨below_grown h _,fun j _=>World.cell?_of_block (w:=w) (h.block b hb)⟩
theorem Turn.new {b:Nat} {w w1 w2:World} {q:Nat} (h:Turn b w w1) (hq:w.heap.size<=q) (hb:b<q) (hl:b<w1.heap.size) (g:w1.grownBy w2 (some q)):Turn b w w2 :=
 ⟨grown_new h.g hq g,fun j hj=>(World.cell?_of_block (w:=w1) (g.block b hl (by simp;omega))).trans (h.c j hj)⟩
theorem turn_set (w:World) (b:Nat) (v:Value):Turn b w (w.setCell ⟨b,0,none⟩ v) :=
 ⟨grown_set w b 0 v,fun j hj=>by
  unfold World.cell? World.setCell
  simp only [Array.getElem?_modify]
  cases hc:w.heap[b]? with
  | none=>simp
  | some o =>
   cases o <;> simp [Ne.symm hj,hj]⟩
def Leaf {α:Type} (X:Nat->Prop) (b en:Nat) (val:α->Value) (w:World) (r:Except PErr (α × PS)) (e:Ending) (w':World):Prop :=
 Turn b w w'/\((∃ a S',r=.ok (a,S')/\e=.returned (val a)/\PAt X b en S' w') \/ ∃ er,r=.error er/\e=trouble er)
def LeafU (X:Nat->Prop) (b en:Nat) (w:World) (r:Except PErr (Unit × PS)) (e:Ending) (w':World):Prop :=
 Turn b w w'/\((∃ S',r=.ok ((),S')/\e=.returned (.tuple #[])/\PAt X b en S' w') \/ ∃ er,r=.error er/\e=trouble er)
def StepU (X:Nat->Prop) (b en:Nat) (w:World) (r:Except PErr (Unit × PS)) (e:Ending) (w':World):Prop :=
 Kept X w w'/\((∃ S',r=.ok ((),S')/\e=.returned (.tuple #[])/\PAt X b en S' w') \/ ∃ er,r=.error er/\e=trouble er)
theorem LeafU.step {X:Nat->Prop} {b en:Nat} {w w':World} {r:Except PErr (Unit × PS)} {e:Ending} (h:LeafU X b en w r e w') (hb:¬ X b):StepU X b en w r e w' :=
 ⟨grown_kept h.1.g fun k e=>by cases e;exact hb,h.2⟩
theorem PAt.store {X:Nat->Prop} {b en:Nat} {S:PS} {w:World} (h:PAt X b en S w) {j:Nat} {v:Value} {s':Stmt}
 (hs:∀ tv L,(boxC tv en L S.s).setIfInBounds j v=boxC tv en L s') (he:s'.cols=S.s.cols/\s'.names=S.s.names/\s'.row=S.s.row/\s'.sets=S.s.sets/\s'.wher=S.s.wher/\s'.order=S.s.order) :
 PAt X b en { S with s:=s' } (w.setCell ⟨b,j,none⟩ v)/\w.grownBy (w.setCell ⟨b,j,none⟩ v) (some b):=by
 obtain ⟨tv,L,h1,h2,h3⟩:=h.box
 have hb:Below b w (w.setCell ⟨b,j,none⟩ v):=(Below.refl b w).setCell (p:=⟨b,j,none⟩) (jR _) v
 have g:w.grownBy (w.setCell ⟨b,j,none⟩ v) (some b):=⟨hb.os,hb.tape,hb.output,hb.size,fun c _ hc=>Below.heap_setCell w ⟨b,j,none⟩ v c (fun e=>hc (by rw [e]))⟩
 refine ⟨⟨h.env.same fun k hk hl=>g.block k hl fun e=>by cases e;exact Nat.lt_irrefl _ (h.glob _ hk),h.glob,h.old,fun k hk=>by simpa using h.lt k hk,h.nb,⟨tv,L,?_,h2.keep fun k hk hl=>g.block k hl fun e=>by cases e;exact Nat.lt_irrefl _ hk,?_⟩,h.tok⟩,g⟩
 · rw [<- hs tv L]
   exact heap_setCell_same _ _ _ _ _ _ h1
 · have h4:=h3.kept h1 (by decide) (by decide) (by decide) (by decide) (by decide) g
   obtain ⟨e1,e2,e3,e4,e5,e6⟩:=he
   exact ⟨by rw [e1];exact h4.cols,by rw [e2];exact h4.names,by rw [e3];exact h4.row,by rw [e4];exact h4.sets,by rw [e5];exact h4.wher,by rw [e6];exact h4.order⟩
end
end Go.Proofs.YtjcpccadmcglgaaGreatDoor
