/- plain.Sorted: the rows, copied and sorted, equal ones in their old order. -/
import Derived.Test.YtgemihkcihigpaaGreatDoorZD11
import Derived.Test.YtgemihkcihigpaaGreatDoorZD17
import Derived.Test.YtgemihkcihigpaaGreatDoorZD18
import Derived.Test.YtgemihkcihigpaaGreatDoorZD9
set_option linter.unusedVariables false
set_option linter.unusedSimpArgs false
set_option maxRecDepth 100000
set_option maxHeartbeats 64000000
namespace Go.Proofs.YtgemihkcihigpaaGreatDoor
open Go.Lib (hid)
section
open Go.RowKit Go.Sort Go.Shelf Go.Lib
abbrev rowR:Rep (List Val):=sliceR valR
theorem tot_cmpBy (N:List Int):Tot (fun A B:List Val=>cmpBy A B N):=by
 induction N with
 | nil=>exact tot_cmpR
 | cons n ns ih =>
  have:=(tot_cmpV.pull fun r:List Val=>atV r n).lex (g:=fun A B:List Val=>cmpBy A B ns) (fun x y _=>ih.anti x y) (fun x y z _ _=>ih.trans x y z)
  exact this
theorem sortWorld_block {α:Type} [Inhabited α] {enc:α->Value} {w0:World} {blk off m:Nat} {dk:Array α} {os:Array Obj} {k:Nat} (hk:k<w0.heap.size) (hne:k ≠ blk):(sortWorld enc w0 blk off m dk os).heap[k]? = w0.heap[k]? := by
 unfold sortWorld
 rw [heap_grow_old _ _ (by simpa using hk)]
 have:blk ≠ k:=fun e=>hne e.symm
 simp [putRow,mapBlock,Sort.ahead,Array.getElem?_modify,this]
structure Elt (B:Nat) (w0:World) (blk:Nat) where
 v:Value
 l:List Val
 tag:Nat
 ok:SlV valR (fun k=>k ≠ blk/\B<=k) w0 v l
instance {B:Nat} {w0:World} {blk:Nat}:Inhabited (Elt B w0 blk):=⟨⟨.slice none 0 0,[],0,⟨none,0,rfl,jR _,by simp,RowAt.nil⟩⟩⟩
theorem elt_one {B:Nat} {w0:World} {blk:Nat}:OneCell (fun x:Elt B w0 blk=>x.v):=fun x=>by
 obtain ⟨a,c,h⟩:=x.ok.shape
 rw [show (fun x:Elt B w0 blk=>x.v) x=x.v from rfl,h]
 rfl
theorem elt_lays {B:Nat} {w0:World} {blk:Nat} (off size:Nat) {r:Nat->Prop} {ay:Option Addr} {cy pb pt:Nat} {N:List Int} (hr:∀ k,r k->k ≠ blk) (hN:SlV intR r w0 (.slice ay N.length cy) N)
 (hpb:w0.cell? ⟨pb,0,none⟩=some (.slice ay N.length cy)) (hpt:w0.cell? ⟨pt,0,none⟩=some (.func (.func 56) #[] #[])) (hK:KindsAt w0) (h1:pb ≠ blk) (h2:pt ≠ blk) (h3:0 ≠ blk) :
 CmpLays1 Tryz.prog 61 #[.pointer (some ⟨pb,0,none⟩),.pointer (some ⟨pt,0,none⟩)] (fun x:Elt B w0 blk=>x.v) (fun x y=>cmpBy x.l y.l N) blk off size w0:=by
 intro m os dk _ x y
 have keep:∀ k,k ≠ blk->k<w0.heap.size->(sortWorld (fun x:Elt B w0 blk=>x.v) w0 blk off m dk os).heap[k]? = w0.heap[k]? := fun k hk hl=>sortWorld_block hl hk
 obtain ⟨xa,xc,hx⟩:=x.ok.shape
 obtain ⟨ya,yc,hy⟩:=y.ok.shape
 have hx1:=x.ok
 have hy1:=y.ok
 rw [hx] at hx1
 rw [hy] at hy1
 have hc:∀ {b o:Nat} {u:Value},b ≠ blk->w0.cell? ⟨b,o,none⟩=some u->(sortWorld (fun x:Elt B w0 blk=>x.v) w0 blk off m dk os).cell? ⟨b,o,none⟩=some u:=fun hne h=>(World.cell?_of_block (keep _ hne (World.block_lt_of_cell? w0 _ h))).trans h
 have:=s3_gr (hx1.keep fun k hk hl=>keep k hk.1 hl) (hy1.keep fun k hk hl=>keep k hk.1 hl) (hN.keep fun k hk hl=>keep k (hr k hk) hl) (hc h1 hpb) (hc h2 hpt) (show KindsAt _ from ⟨hc h3 hK.1,hc h3 hK.2.1,hc h3 hK.2.2⟩)
 show Calls _ _ (#[x.v,y.v] ++ #[_,_]) _ _
 rw [hx,hy]
 exact this
theorem owns_shape {w:World} {B:Nat} {e:TypeId} {sz:Nat} {v:Value} {n:Nat} {xs:List Value} (h:w.ownsRow B e sz v n xs):∃ a c,v=.slice a n c/\(a=none->n=0)/\(∀ ad,a=some ad->ad.spot=none):=by
 rcases h.2 with ⟨rfl,h0⟩|⟨g,cap,cur,rfl,_⟩
 · subst h0
   exact ⟨none,0,rfl,(fun _=>rfl),(fun _ e=>by cases e)⟩
 · exact ⟨some ⟨g,0,none⟩,cap,rfl,(fun e=>by cases e),(fun ad e=>by cases e;rfl)⟩
theorem row_raw {α:Type} {enc:α->List Value} {sz:Nat} {hl:∀ x,(enc x).length=sz} {p:Nat->Prop} {w:World} {a:Option Addr} {L:List α} (h:RowAt (flatR sz enc hl) p w a L):RawAt w a (L.flatMap enc):=by
 rintro ad rfl
 exact h.news
theorem row_nil {α:Type} {R:Rep α} {p:Nat->Prop} {w:World} {a:Option Addr} {L:List α} (h:RowAt R p w a L):a=none->L.length=0:=by
 rintro rfl
 rcases h with h|⟨b,off,ha,_⟩
 · rw [h];rfl
 · cases ha
theorem val_cells (L:List Val):∀ u ∈ L.flatMap valEnc,u.oneCell'=true:=by
 intro u hu
 obtain ⟨x,_,hx⟩:=List.mem_flatMap.1 hu
 simp [valEnc] at hx
 rcases hx with rfl|rfl|rfl <;> rfl
theorem s2_any {p:Nat->Prop} {a:Option Addr} {c:Nat} {L:List Val} {w:World} (h:SlV valR p w (.slice a L.length c) L) (hb:L.length * 32<=140737488355328) :
 Calls Tryz.prog 58 #[.slice a L.length c] w fun e w'=>∃ (ua:Option Addr) (un uc:Nat),e=.returned (.slice ua un uc)/\Below w.heap.size w w'/\w'.ownsRow w.heap.size 55 3 (.slice ua un uc) L.length (L.flatMap valEnc):=by
 obtain ⟨_,_,_,hr⟩:=h.row
 have con:=clone_row (w:=w) (c:=c) (row_nil hr) (row_raw hr) (flat_len (sz:=3) (enc:=valEnc) (fun _=>rfl) L) (val_cells L) hb
 clear h hr
 go_enter Tryz.func58,Tryz.ntmps58
 go_wp2_with fail
 refine con.mono ?_
 rintro e w2 ⟨v,rfl,o2,b2⟩
 obtain ⟨ua,uc,hv,_⟩:=owns_shape o2
 rw [hv] at o2 ⊢
 have O2:=hid o2
 have B2:=hid b2
 clear con o2 b2 hv
 go_wp2_with fail
 go_ret
 exact ⟨ua,_,uc,rfl,B2.out,O2.out⟩
theorem rows_raw {p:Nat->Prop} {w:World} {a:Option Addr} {L:List (List Val)} (h:RowAt rowR p w a L):∃ ins:List Value,ins.length=L.length/\RawAt w a ins/\∀ t (ht:t<L.length) (hi:t<ins.length),∃ ra rc,ins[t]=.slice ra L[t].length rc/\SlV valR p w (.slice ra L[t].length rc) L[t]:=by
 rcases h with rfl|⟨b,off,rfl,hp,hb,h⟩
 · exact ⟨[],rfl,fun _ _ j u hj=>by simp at hj,fun t ht=>by cases ht⟩
 · have hx:∀ t (ht:t<L.length),∃ v ra rc,w.cell? ⟨b,off+t,none⟩=some v/\v=.slice ra L[t].length rc/\SlV valR p w (.slice ra L[t].length rc) L[t]:=fun t ht=>by
    obtain ⟨cs,h1,ra,rc,rfl,h2,h3,h4⟩:=h t ht
    have:=h1 0 (by decide)
    simp only [rowR,sliceR,Nat.mul_one,Nat.add_zero,List.getElem?_cons_zero] at this
    exact ⟨_,ra,rc,this,rfl,ra,rc,rfl,h2,h3,h4⟩
   have hf:∃ f:Nat->Value,∀ t (ht:t<L.length),∃ ra rc,w.cell? ⟨b,off+t,none⟩=some (f t)/\f t=.slice ra L[t].length rc/\SlV valR p w (.slice ra L[t].length rc) L[t]:=by
    refine ⟨fun t=>if ht:t<L.length then (hx t ht).choose else .slice none 0 0,fun t ht=>?_⟩
    simp only [dif_pos ht]
    exact (hx t ht).choose_spec
   obtain ⟨f,hf⟩:=hf
   refine ⟨(List.range L.length).map f,by simp,?_,fun t ht hi=>?_⟩
   · rintro ad e j u hj
     cases e
     rw [addr_add]
     rw [List.getElem?_map] at hj
     by_cases hjl:j<L.length
     · rw [List.getElem?_range hjl] at hj
       simp only [Option.map_some,Option.some.injEq] at hj
       subst hj
       obtain ⟨_,_,h1,_⟩:=hf j hjl
       exact h1
     · rw [List.getElem?_eq_none (by simpa using hjl)] at hj
       simp at hj
   · obtain ⟨ra,rc,_,h2,h3⟩:=hf t ht
     exact ⟨ra,rc,by simpa using h2,h3⟩
end
section
open Go.RowKit Go.Sort Go.Shelf Go.Lib
def Copies (B:Nat) (L:List (List Val)) (k:Nat) (outs:List Value) (w:World):Prop :=
 outs.length=k/\∀ t (ht:t<outs.length) (hl:t<L.length),w.ownsRow B 55 3 outs[t] L[t].length (L[t].flatMap valEnc)
theorem copies_keeps (B B':Nat) (L:List (List Val)) (k:Nat) (outs:List Value) (T:TypeId) (hT:55 ≠ T):Keeps B' T (Copies B L k outs):=by
 rintro w1 w2 r ⟨h1,h2⟩ hr hg
 refine ⟨h1,fun t ht hl=>(h2 t ht hl).kept hg ?_⟩
 rcases (h2 t ht hl).2 with ⟨e,_⟩|⟨g,cap,cur,e,_,hgb,_⟩
 · left;rw [e];rfl
 · right
   rw [e]
   intro e2
   have e3:r=some g:=by rw [<- e2];rfl
   exact hT ((hr g e3).2 _ _ _ hgb)
theorem rows_copied {p:Nat->Prop} {a:Option Addr} {c:Nat} {L:List (List Val)} {w:World} (h:SlV rowR p w (.slice a L.length c) L) (hL:L.length<=1000000) (hr:∀ x ∈ L,x.length<=1000000) :
 Calls Tryz.prog 57 #[.slice a L.length c,.func (.func 58) #[] #[]] w fun e w'=>∃ v outs,e=.returned v/\w'.ownsRow w.heap.size 35 1 v L.length outs/\Below w.heap.size w w'/\Copies w.heap.size L L.length outs w':=by
 obtain ⟨_,_,_,hrow⟩:=h.row
 obtain ⟨ins,hin1,hin2,hin3⟩:=rows_raw hrow
 refine apply_rr (g:=58) (cb:=#[]) (ins:=ins) (enters_of Tryz.func58 (by kernel_rfl) rfl) (row_nil hrow) (fun h0 ad e=>?_) hin2 hin1 (by omega) (Copies w.heap.size L) ⟨rfl,fun t ht=>by cases ht⟩ (fun k outs=>copies_keeps _ _ _ _ _ _ (by decide)) (fun k hk outs w1 b1 hc=>?_)
 · obtain ⟨b,off,ha,_⟩:=hrow.addr (by intro e;rw [e] at h0;cases h0)
   rw [ha] at e;cases e;rfl
 · have hkl:k<L.length:=by omega
   obtain ⟨ra,rc,hv,hs⟩:=hin3 k hkl hk
   have:=s2_any (w:=w1) (hs.below b1) (by have:=hr _ (List.getElem_mem hkl);omega)
   rw [hv]
   refine Calls.mono this ?_
   rintro e w2 ⟨ua,un,uc,rfl,b2,o2⟩
   refine ⟨ua,un,uc,rfl,b2,by rw [List.length_append,hc.1];rfl,fun t ht hl=>?_⟩
   by_cases htk:t<k
   · have ht':t<outs.length:=by rw [hc.1];exact htk
     rw [List.getElem_append_left ht']
     exact owns_below (hc.2 t ht' hl) b2
   · have:t=k:=by rw [List.length_append,hc.1] at ht;simp at ht;omega
     subst this
     rw [List.getElem_append_right (by rw [hc.1];exact jR _)]
     simp only [hc.1,Nat.sub_self,List.getElem_cons_zero]
     exact owns_base o2 b1.size
theorem owns_val {w:World} {B g:Nat} {v:Value} {l:List Val} {cs:Array Value} {fz:Nat × Nat} (h:w.ownsRow B 55 3 v l.length (l.flatMap valEnc)) (hl:l.length<=1000000) (hg:w.heap[g]? = some (.cells cs 35 fz)):SlV valR (fun k=>k ≠ g/\B<=k) w v l:=by
 have h2:=h.2
 obtain ⟨a,c,hv,h3,h4,_⟩:=RowAt.of_owns_flat (enc:=valEnc) (sz:=3) (hl:=fun _=>rfl) (p:=fun _=>True) h (fun _ _=>trivial)
 refine ⟨a,c,hv,h3,by omega,?_⟩
 rcases h4 with h4|⟨b,off,rfl,_,hb,h5⟩
 · exact Or.inl h4
 · refine Or.inr ⟨b,off,rfl,?_,hb,h5⟩
   rcases h2 with ⟨e,_⟩|⟨g',cap,cur,e,hB,hgb,_⟩
   · rw [e] at hv;cases hv
   · rw [hv] at e
     simp only [Value.slice.injEq,Option.some.injEq,Addr.mk.injEq] at e
     obtain ⟨⟨rfl,_,_⟩,_⟩:=e
     refine ⟨?_,hB⟩
     rintro rfl
     rw [hg] at hgb
     simp at hgb
theorem ins_nil (c:Nat) (f:Value) (w:World):Calls Tryz.prog 148 #[.slice none 0 c,.int .i64 0,.int .i64 0,f] w fun e w'=>e=.returned (.tuple #[])/\w=w':=by
 go_enter Tryz.func148,Tryz.ntmps148
 go_wp2_with fail
 refine wp_loop_rounds 1 ?_
 rw [rounds_succ]
 go_wp2_with fail
 go_end0
 exact ⟨rfl,rfl⟩
theorem stab_nil (c:Nat) (f:Value) (w:World):Calls Tryz.prog 117 #[.slice none 0 c,.int .i64 0,f] w fun e w'=>e=.returned (.tuple #[])/\w=w':=by
 go_enter Tryz.func117,Tryz.ntmps117
 go_wp2_with fail
 refine wp_loop_rounds 1 ?_
 rw [rounds_succ]
 go_wp2_with fail
 refine (ins_nil c f _).mono ?_
 rintro e w1 ⟨rfl,rfl⟩
 go_wp2_with fail
 refine wp_loop_rounds 1 ?_
 rw [rounds_succ]
 go_wp2_with fail
 go_end0
 exact ⟨rfl,rfl⟩
theorem ssf_nil (c:Nat) (f:Value) (w:World):Calls Tryz.prog 60 #[.slice none 0 c,f] w fun e w'=>e=.returned (.tuple #[])/\w=w':=by
 go_enter Tryz.func60,Tryz.ntmps60
 go_wp2_with fail
 refine (stab_nil c f _).mono ?_
 rintro e w1 ⟨rfl,rfl⟩
 go_wp2_with fail
 go_end0
 exact ⟨rfl,rfl⟩
end
section
open Go.RowKit
def tabR:Rep Tab where
 sz:=4
 ok:=fun p w cs T=>∃ ac cc ai ci,cs=[.int .i64 T.id,.string T.name,.slice ac T.cols.length cc,.slice ai T.idx.length ci]/\SlV colR p w (.slice ac T.cols.length cc) T.cols/\SlV ixR p w (.slice ai T.idx.length ci) T.idx
 len:=by rintro p w cs x ⟨ac,cc,ai,ci,rfl,_⟩;rfl
 keep:=by rintro p w w' cs x ⟨ac,cc,ai,ci,h0,h1,h2⟩ hk;exact ⟨ac,cc,ai,ci,h0,h1.keep hk,h2.keep hk⟩
 weaken:=by rintro p q w cs x ⟨ac,cc,ai,ci,h0,h1,h2⟩ hk;exact ⟨ac,cc,ai,ci,h0,h1.weaken hk,h2.weaken hk⟩
 bound:=by rintro p w cs x ⟨ac,cc,ai,ci,h0,h1,h2⟩;exact ⟨ac,cc,ai,ci,h0,h1.bound,h2.bound⟩
theorem RowAt.tab {p:Nat->Prop} {w:World} {b off:Nat} {L:List Tab} (h:RowAt tabR p w (some ⟨b,off,none⟩) L) (t:Nat) (ht:t<L.length) :
 ∃ ac cc ai ci,w.cell? ⟨b,off+t * 4,none⟩=some (.int .i64 L[t].id)/\w.cell? ⟨b,off+t * 4+1,none⟩=some (.string L[t].name)/\w.cell? ⟨b,off+t * 4+2,none⟩=some (.slice ac L[t].cols.length cc)/\w.cell? ⟨b,off+t * 4+3,none⟩=some (.slice ai L[t].idx.length ci) /\
  TabV p w (.agg #[.int .i64 L[t].id,.string L[t].name,.slice ac L[t].cols.length cc,.slice ai L[t].idx.length ci]) L[t]:=by
 obtain ⟨cs,h1,ac,cc,ai,ci,rfl,h2,h3⟩:=h.get t ht
 exact ⟨ac,cc,ai,ci,h1 0 (by decide),h1 1 (by decide),h1 2 (by decide),h1 3 (by decide),ac,cc,ai,ci,rfl,h2,h3⟩
def rowsR:Rep (List (List Val)):=sliceR rowR
def StAt (p:Nat->Prop) (w:World) (v:Value) (s:StV):Prop :=
 ∃ a1 c1 a2 c2,v=.agg #[.slice a1 s.tabs.length c1,.slice a2 s.rows.length c2]/\SlV tabR p w (.slice a1 s.tabs.length c1) s.tabs/\SlV rowsR p w (.slice a2 s.rows.length c2) s.rows
theorem StAt.keep {p:Nat->Prop} {w w':World} {v:Value} {s:StV} (h:StAt p w v s) (hk:∀ k,p k->k<w.heap.size->w'.heap[k]? = w.heap[k]?):StAt p w' v s:=by
 obtain ⟨a1,c1,a2,c2,h0,h1,h2⟩:=h
 exact ⟨a1,c1,a2,c2,h0,h1.keep hk,h2.keep hk⟩
theorem StAt.below {p:Nat->Prop} {w w':World} {v:Value} {s:StV} (h:StAt p w v s) (hb:Below w.heap.size w w'):StAt p w' v s:=h.keep fun k _ hk=>hb.block k hk
theorem StAt.weaken {p q:Nat->Prop} {w:World} {v:Value} {s:StV} (h:StAt p w v s) (hk:∀ k,p k->q k):StAt q w v s:=by
 obtain ⟨a1,c1,a2,c2,h0,h1,h2⟩:=h
 exact ⟨a1,c1,a2,c2,h0,h1.weaken hk,h2.weaken hk⟩
def nAt (L:List Tab) (t:Nat):ByteArray:=((L[t]?).map (·.name)).getD noStr
theorem nAt_eq {L:List Tab} {t:Nat} (h:t<L.length):nAt L t=L[t].name:=by
 unfold nAt
 rw [List.getElem?_eq_getElem h];rfl
theorem findV_ix (s:StV) (name:ByteArray):ixN (fun t=>sEq (nAt s.tabs t) name) s.tabs.length=findV s name :=
 ixN_list (fun t=>sEq t.name name) s.tabs _ (fun t ht=>by rw [nAt_eq ht])
theorem find1_any {b:Nat} {name nm:ByteArray} {v0 v2 v3:Value} {w:World} (h1:v0.oneCell'=true) (h2:v2.oneCell'=true) (h3:v3.oneCell'=true) (hb:w.heap[b]? = some (.cells #[.string name] 9 (0,0))) :
 Calls Tryz.prog 80 #[.agg #[v0,.string nm,v2,v3],.pointer (some ⟨b,0,none⟩)] w fun e w'=>e=.returned (.bool (sEq nm name))/\Below w.heap.size w w':=by
 obtain ⟨W1,hW1⟩:∃ W1,w.alloc (.cells #[v0,.string nm,v2,v3] 75)=W1:=⟨_,rfl⟩
 have hb1:Below w.heap.size w W1:=by rw [<- hW1];exact (b0R).alloc (jR _) _
 have hq:W1.heap[w.heap.size]? = some (.cells #[v0,.string nm,v2,v3] 75 (0,0)):=by rw [<- hW1];exact heap_alloc_new _ _
 have t1:=jC hq 1
 have q0:=jC ((hb1.block _ (jB hb)).trans hb) 0
 simp only [gT,gZ,gS] at t1 q0
 have B1:=hid hb1
 clear hb1 hq hb
 go_enter Tryz.func80,Tryz.ntmps80
 go_upto_region 1 with (fail)
 clear hW1
 go_wp2_with fail
 go_ret
 exact ⟨rfl,B1.out⟩
theorem find_any {p:Nat->Prop} {a1 a2:Option Addr} {c1 c2 n2:Nat} {L:List Tab} {R:List (List (List Val))} {w:World} (hL:SlV tabR p w (.slice a1 L.length c1) L) (name:ByteArray) :
 Calls Tryz.prog 33 #[.agg #[.slice a1 L.length c1,.slice a2 n2 c2],.string name] w fun e w'=>e=.returned (.int .i64 (findV ⟨L,R⟩ name))/\Below w.heap.size w w':=by
 obtain ⟨W1,hW1⟩:∃ W1,w.alloc (.cells #[.slice a1 L.length c1,.slice a2 n2 c2] 27)=W1:=⟨_,rfl⟩
 obtain ⟨W2,hW2⟩:∃ W2,W1.alloc (.cells #[.string name] 9)=W2:=⟨_,rfl⟩
 have hb1:Below w.heap.size w W1:=by rw [<- hW1];exact (b0R).alloc (jR _) _
 have h1s:W1.heap.size=w.heap.size+1:=by rw [<- hW1];exact Array.size_push _
 have hb2:Below w.heap.size w W2:=by rw [<- hW2];exact hb1.alloc (by omega) _
 have ht0:W1.heap[w.heap.size]? = some (.cells #[.slice a1 L.length c1,.slice a2 n2 c2] 27 (0,0)):=by rw [<- hW1];exact heap_alloc_new _ _
 have hb12:Below W1.heap.size W1 W2:=by rw [<- hW2];exact (b0R).alloc (jR _) _
 have t0:=jC ((hb12.block _ (jB ht0)).trans ht0) 0
 simp only [gT,gZ,gS] at t0
 have HBR:=hid (show W2.heap[w.heap.size+1]? = some (.cells #[.string name] 9 (0,0)) by rw [<- hW2,<- h1s];exact heap_alloc_new _ _)
 have HL:=hid (hL.below hb2)
 have B2:=hid hb2
 have con:Calls Tryz.prog 79 #[.slice a1 L.length c1,.func (.func 80) #[] #[.pointer (some ⟨w.heap.size+1,0,none⟩)]] W2 fun e w'=>e=.returned (.int .i64 (ixN (fun t=>sEq (nAt L t) name) L.length))/\Below W2.heap.size W2 w':=by
  obtain ⟨_,_,hmx,hrow⟩:=HL.out.row
  have key:∀ t,∃ x:Value × Value × Value,t<L.length->(∀ b off,a1=some ⟨b,off,none⟩->W2.cell? ⟨b,off+t * 4,none⟩=some x.1/\W2.cell? ⟨b,off+t * 4+1,none⟩=some (.string (nAt L t))/\W2.cell? ⟨b,off+t * 4+2,none⟩=some x.2.1/\W2.cell? ⟨b,off+t * 4+3,none⟩=some x.2.2)/\x.1.oneCell'=true/\x.2.1.oneCell'=true/\x.2.2.oneCell'=true:=by
   intro t
   by_cases ht:t<L.length
   · obtain ⟨b,off,rfl,_⟩:=hrow.addr (by intro e;rw [e] at ht;cases ht)
     obtain ⟨ac,cc,ai,ci,g0,g1,g2,g3,_⟩:=hrow.tab t ht
     refine ⟨⟨.int .i64 L[t].id,.slice ac L[t].cols.length cc,.slice ai L[t].idx.length ci⟩,fun _=>⟨fun b' off' e=>?_,rfl,rfl,rfl⟩⟩
     obtain ⟨rfl,rfl,_⟩:=(by simpa using e:b=b'/\off=off')
     rw [nAt_eq ht]
     exact ⟨g0,g1,g2,g3⟩
   · exact ⟨⟨.bool false,.bool false,.bool false⟩,fun h=>absurd h ht⟩
  obtain ⟨x,hx⟩:=Classical.axiomOfChoice key
  refine ixf_tab (x0:=fun t=>(x t).1) (x1:=fun t=>.string (nAt L t)) (x2:=fun t=>(x t).2.1) (x3:=fun t=>(x t).2.2) (fun t=>sEq (nAt L t) name) (enters_of Tryz.func80 (by kernel_rfl) rfl) hmx (fun h0=>?_) (fun t ht w1 b1=>?_)
  · obtain ⟨b,off,e,_,hbl⟩:=hrow.addr (by intro e;rw [e] at h0;cases h0)
    exact ⟨b,off,e,hbl,fun t ht=>(hx t ht).1 b off e⟩
  · exact find1_any (hx t ht).2.1 (hx t ht).2.2.1 (hx t ht).2.2.2 ((b1.block _ (jB HBR.out)).trans HBR.out)
 have HF:=hid (findV_ix ⟨L,R⟩ name)
 generalize ixN _ _=f at con HF
 clear hL hb1 hb2 hb12 ht0 HL HBR
 go_enter Tryz.func33,Tryz.ntmps33
 go_upto_region 1 with (fail)
 clear hW1 hW2 h1s
 go_wp2_with fail
 refine con.mono ?_
 rintro e w2 ⟨rfl,b2⟩
 have B3:=hid (B2.out.trans (b2.mono B2.out.size))
 clear b2 con
 go_wp2_with fail
 go_ret
 exact ⟨by rw [<- HF.out];rfl,B3.out⟩
end
section
open Go.RowKit
def lacksV (T:Tab) (L:List Cond):Bool:=L.any fun c=>decide (colOf T c.col<0)
theorem lacksV_any (T:Tab) (L:List Cond):anyN (fun t=>decide (colOf T (cAt L t).col<0)) L.length=lacksV T L :=
 anyN_list (fun c=>decide (colOf T c.col<0)) L _ (fun t ht=>by rw [cAt_eq ht])
theorem lacks1_any {p:Nat->Prop} {ac ai:Option Addr} {cc ci bt:Nat} {T:Tab} {w:World} (hT:TabV p w (.agg #[.int .i64 T.id,.string T.name,.slice ac T.cols.length cc,.slice ai T.idx.length ci]) T) (hC:T.cols.length<=1000000)
 (hbt:w.heap[bt]? = some (.cells #[.int .i64 T.id,.string T.name,.slice ac T.cols.length cc,.slice ai T.idx.length ci] 75 (0,0))) (c:Cond) :
 Calls Tryz.prog 136 #[.agg #[.string c.col,.int .i64 c.op,.int .i64 c.val.kind,.int .i64 c.val.n,.string c.val.s],.pointer (some ⟨bt,0,none⟩)] w
  fun e w'=>e=.returned (.bool (decide (colOf T c.col<0)))/\Below w.heap.size w w':=by
 obtain ⟨cn,cop,⟨vk,vn,vs⟩⟩:=c
 obtain ⟨W1,hW1⟩:∃ W1,w.alloc (.cells #[.string cn,.int .i64 cop,.int .i64 vk,.int .i64 vn,.string vs] 60)=W1:=⟨_,rfl⟩
 have hb1:Below w.heap.size w W1:=by rw [<- hW1];exact (b0R).alloc (jR _) _
 have hq:W1.heap[w.heap.size]? = some (.cells #[.string cn,.int .i64 cop,.int .i64 vk,.int .i64 vn,.string vs] 60 (0,0)):=by rw [<- hW1];exact heap_alloc_new _ _
 have HT:=hid (hT.below hb1)
 have hbt1:=(hb1.block _ (jB hbt)).trans hbt
 have t0:=jC hbt1 0
 have t1:=jC hbt1 1
 have t2:=jC hbt1 2
 have t3:=jC hbt1 3
 have q0:=jC hq 0
 simp only [gT,gZ,gS] at t0 t1 t2 t3 q0
 have B1:=hid hb1
 clear hT hbt hbt1 hq hb1
 simp only
 obtain ⟨n,hn⟩:∃ n,n=colOf T cn:=⟨_,rfl⟩
 have HN:=hid hn.symm
 clear hn
 go_enter Tryz.func136,Tryz.ntmps136
 go_upto_region 1 with (fail)
 clear hW1
 go_wp2_with fail
 refine (pcol_any HT.out hC cn).mono ?_
 rintro e w2 ⟨rfl,b2⟩
 rw [HN.out]
 have B2:=hid (B1.out.trans (b2.mono B1.out.size))
 clear b2 t0 t1 t2 t3 q0
 go_wp2_with fail
 go_ret
 exact ⟨by rw [HN.out];rfl,B2.out⟩
theorem lacks_any {p s:Nat->Prop} {ac ai aw:Option Addr} {cc ci cw:Nat} {T:Tab} {L:List Cond} {w:World} (hT:TabV p w (.agg #[.int .i64 T.id,.string T.name,.slice ac T.cols.length cc,.slice ai T.idx.length ci]) T) (hC:T.cols.length<=1000000)
 (hL:SlV condR s w (.slice aw L.length cw) L) :
 Calls Tryz.prog 91 #[.agg #[.int .i64 T.id,.string T.name,.slice ac T.cols.length cc,.slice ai T.idx.length ci],.slice aw L.length cw] w
  fun e w'=>e=.returned (.bool (lacksV T L))/\Below w.heap.size w w':=by
 obtain ⟨W1,hW1⟩:∃ W1,w.alloc (.cells #[.int .i64 T.id,.string T.name,.slice ac T.cols.length cc,.slice ai T.idx.length ci] 75)=W1:=⟨_,rfl⟩
 have hb1:Below w.heap.size w W1:=by rw [<- hW1];exact (b0R).alloc (jR _) _
 have HBT:=hid (show W1.heap[w.heap.size]? = some (.cells #[.int .i64 T.id,.string T.name,.slice ac T.cols.length cc,.slice ai T.idx.length ci] 75 (0,0)) by rw [<- hW1];exact heap_alloc_new _ _)
 have HT:=hid (hT.below hb1)
 have HL:=hid (hL.below hb1)
 have B2:=hid hb1
 have con:Calls Tryz.prog 65 #[.slice aw L.length cw,.func (.func 136) #[] #[.pointer (some ⟨w.heap.size,0,none⟩)]] W1 fun e w'=>e=.returned (.bool (anyN (fun t=>decide (colOf T (cAt L t).col<0)) L.length))/\Below W1.heap.size W1 w':=by
  obtain ⟨_,_,hmx,hrow⟩:=HL.out.row
  refine cf_cond (x0:=fun t=>.string (cAt L t).col) (x1:=fun t=>.int .i64 (cAt L t).op) (x2:=fun t=>.int .i64 (cAt L t).val.kind) (x3:=fun t=>.int .i64 (cAt L t).val.n) (x4:=fun t=>.string (cAt L t).val.s) (fun t=>decide (colOf T (cAt L t).col<0)) (enters_of Tryz.func136 (by kernel_rfl) rfl) hmx (fun h0=>?_) (fun t ht w1 b1=>?_)
  · obtain ⟨b,off,rfl,_,hbl⟩:=hrow.addr (by intro e;rw [e] at h0;cases h0)
    refine ⟨b,off,rfl,hbl,fun t ht=>?_⟩
    have:=hrow.cond t ht
    rw [cAt_eq ht]
    exact this
  · exact lacks1_any (HT.out.below b1) hC ((b1.block _ (jB HBT.out)).trans HBT.out) (cAt L t)
 have HF:=hid (lacksV_any T L)
 generalize anyN _ _=f at con HF
 clear hT hL hb1 HT HL HBT
 go_enter Tryz.func91,Tryz.ntmps91
 go_upto_region 1 with (fail)
 clear hW1
 go_wp2_with fail
 refine con.mono ?_
 rintro e w2 ⟨rfl,b2⟩
 have B3:=hid (B2.out.trans (b2.mono B2.out.size))
 clear b2 con
 go_wp2_with fail
 go_ret
 exact ⟨by rw [<- HF.out];rfl,B3.out⟩
def emptyS:Value:=.agg #[.slice none 0 0,.slice none 0 0]
theorem results_cells2 {P:Program} {fn:Func} {p q:Tmp} {tp tq:TypeId} (h:fn.results=#[.cell p tp,.cell q tq]) (tmps:Array Value) (w:World) (g1 g2:Nat) (t1 t2:TypeId) (cs1 cs2:Array Value) (fr1 fr2:Nat × Nat) (d1 d2:TypeDesc)
 (hp:tmps.getD p undef=.pointer (some ⟨g1,0,none⟩)) (hq:tmps.getD q undef=.pointer (some ⟨g2,0,none⟩)) (hg1:w.heap[g1]? = some (.cells cs1 t1 fr1)) (hg2:w.heap[g2]? = some (.cells cs2 t2 fr2))
 (hu1:P.underlying tp=some d1) (hd1:(match d1 with | .struct _ | .array _ _=>true|_=>false)=true) (hi1:(P.info? tp).map (·.size)=some cs1.size)
 (hu2:P.underlying tq=some d2) (hd2:(match d2 with | .struct _ | .array _ _=>true|_=>false)=true) (hi2:(P.info? tq).map (·.size)=some cs2.size) :
 (results fn tmps).run P w=.ok (.tuple #[.agg cs1,.agg cs2]) w:=by
 have hp':tmps[p]?.getD undef=.pointer (some ⟨g1,0,none⟩):=by simpa using hp
 have hq':tmps[q]?.getD undef=.pointer (some ⟨g2,0,none⟩):=by simpa using hq
 simp [results,h,hp',hq',asAddr,Sem.run_bind,Result.andThen,run_loadVar_row w g1 t1 tp cs1 fr1 d1 hg1 hu1 hd1 hi1,run_loadVar_row w g2 t2 tq cs2 fr2 d2 hg2 hu2 hd2 hi2]
theorem wrong_any (e:Int) (w:World) :
 Calls Tryz.prog 86 #[.int .i64 e] w fun x w'=>x=.returned (.tuple #[emptyS,.agg #[.int .i64 e,.slice none 0 0,.int .i64 0]])/\Below w.heap.size w w':=by
 go_enter Tryz.func86,Tryz.ntmps86
 go_wp2_with fail
 refine bodyPost_ret (results_cells2 rfl _ _ w.heap.size (w.heap.size+1) 27 43 _ _ (0,0) (0,0) _ _ rfl rfl (heap_alloc2_old _ _ _) (heap_alloc2_new _ _ _) Tryz.underlying27 rfl (by kernel_rfl) Tryz.underlying43 rfl (by kernel_rfl)) rfl ?_
 exact ⟨rfl,((b0R).alloc (jR _) _).alloc (Nat.le_of_lt (by show _<(w.heap.push _).size;simp)) _⟩
end
section
open Go.RowKit
def Copies2 (B:Nat) (L:List (List (List Val))) (k:Nat) (outs:List Value) (w:World):Prop :=
 outs.length=k/\∀ t (ht:t<outs.length) (hl:t<L.length),∃ xs,w.ownsRow B 35 1 outs[t] L[t].length xs/\Copies B L[t] L[t].length xs w
theorem copies2_keeps (B B':Nat) (L:List (List (List Val))) (k:Nat) (outs:List Value) (T:TypeId) (hT:55 ≠ T) (hR:35 ≠ T):Keeps B' T (Copies2 B L k outs):=by
 rintro w1 w2 r ⟨h1,h2⟩ hr hg
 refine ⟨h1,fun t ht hl=>?_⟩
 obtain ⟨xs,h3,h4⟩:=h2 t ht hl
 refine ⟨xs,h3.kept hg ?_,copies_keeps _ B' _ _ _ T hT w1 w2 r h4 hr hg⟩
 rcases h3.2 with ⟨e,_⟩|⟨g,cap,cur,e,_,hgb,_⟩
 · left;rw [e];rfl
 · right
   rw [e]
   intro e2
   have e3:r=some g:=by rw [<- e2];rfl
   exact hR ((hr g e3).2 _ _ _ hgb)
theorem own1_any {p:Nat->Prop} {a:Option Addr} {c:Nat} {L:List Val} {w:World} (h:SlV valR p w (.slice a L.length c) L) (hb:L.length * 32<=140737488355328) :
 Calls Tryz.prog 127 #[.slice a L.length c] w fun e w'=>∃ (ua:Option Addr) (un uc:Nat),e=.returned (.slice ua un uc)/\Below w.heap.size w w'/\w'.ownsRow w.heap.size 55 3 (.slice ua un uc) L.length (L.flatMap valEnc):=by
 obtain ⟨_,_,_,hr⟩:=h.row
 have con:=clone_row (w:=w) (c:=c) (row_nil hr) (row_raw hr) (flat_len (sz:=3) (enc:=valEnc) (fun _=>rfl) L) (val_cells L) hb
 clear h hr
 go_enter Tryz.func127,Tryz.ntmps127
 go_wp2_with fail
 refine con.mono ?_
 rintro e w2 ⟨v,rfl,o2,b2⟩
 obtain ⟨ua,uc,hv,_⟩:=owns_shape o2
 rw [hv] at o2 ⊢
 have O2:=hid o2
 have B2:=hid b2
 clear con o2 b2 hv
 go_wp2_with fail
 go_ret
 exact ⟨ua,_,uc,rfl,B2.out,O2.out⟩
theorem rows_owned {p:Nat->Prop} {a:Option Addr} {c:Nat} {L:List (List Val)} {w:World} (h:SlV rowR p w (.slice a L.length c) L) (hL:L.length<=1000000) (hr:∀ x ∈ L,x.length<=1000000) :
 Calls Tryz.prog 57 #[.slice a L.length c,.func (.func 127) #[] #[]] w fun e w'=>∃ v outs,e=.returned v/\w'.ownsRow w.heap.size 35 1 v L.length outs/\Below w.heap.size w w'/\Copies w.heap.size L L.length outs w':=by
 obtain ⟨_,_,_,hrow⟩:=h.row
 obtain ⟨ins,hin1,hin2,hin3⟩:=rows_raw hrow
 refine apply_rr (g:=127) (cb:=#[]) (ins:=ins) (enters_of Tryz.func127 (by kernel_rfl) rfl) (row_nil hrow) (fun h0 ad e=>?_) hin2 hin1 (by omega) (Copies w.heap.size L) ⟨rfl,fun t ht=>by cases ht⟩ (fun k outs=>copies_keeps _ _ _ _ _ _ (by decide)) (fun k hk outs w1 b1 hc=>?_)
 · obtain ⟨b,off,ha,_⟩:=hrow.addr (by intro e;rw [e] at h0;cases h0)
   rw [ha] at e;cases e;rfl
 · have hkl:k<L.length:=by omega
   obtain ⟨ra,rc,hv,hs⟩:=hin3 k hkl hk
   have:=own1_any (w:=w1) (hs.below b1) (by have:=hr _ (List.getElem_mem hkl);omega)
   rw [hv]
   refine Calls.mono this ?_
   rintro e w2 ⟨ua,un,uc,rfl,b2,o2⟩
   refine ⟨ua,un,uc,rfl,b2,by rw [List.length_append,hc.1];rfl,fun t ht hl=>?_⟩
   by_cases htk:t<k
   · have ht':t<outs.length:=by rw [hc.1];exact htk
     rw [List.getElem_append_left ht']
     exact owns_below (hc.2 t ht' hl) b2
   · have:t=k:=by rw [List.length_append,hc.1] at ht;simp at ht;omega
     subst this
     rw [List.getElem_append_right (by rw [hc.1];exact jR _)]
     simp only [hc.1,Nat.sub_self,List.getElem_cons_zero]
     exact owns_base o2 b1.size
theorem own2_any {p:Nat->Prop} {a:Option Addr} {c b:Nat} {L:List (List Val)} {w:World} (h:SlV rowR p w (.slice a L.length c) L) (hL:L.length<=1000000) (hr:∀ x ∈ L,x.length<=1000000) (hb:w.heap[b]? = some (.cells #[.func (.func 127) #[] #[]] 104 (0,0))) :
 Calls Tryz.prog 130 #[.slice a L.length c,.pointer (some ⟨b,0,none⟩)] w fun e w'=>∃ (ua:Option Addr) (un uc:Nat) (xs:List Value),e=.returned (.slice ua un uc)/\Below w.heap.size w w'/\w'.ownsRow w.heap.size 35 1 (.slice ua un uc) L.length xs/\Copies w.heap.size L L.length xs w':=by
 have con:=rows_owned h hL hr
 have q0:=jC hb 0
 simp only [gT,gZ,gS] at q0
 clear h hb hr
 go_enter Tryz.func130,Tryz.ntmps130
 go_wp2_with fail
 refine con.mono ?_
 rintro e w2 ⟨v,xs,rfl,o2,b2,c2⟩
 obtain ⟨ua,uc,hv,_⟩:=owns_shape o2
 rw [hv] at o2 ⊢
 have O2:=hid o2
 have B2:=hid b2
 have C2:=hid c2
 clear con o2 b2 c2 hv q0
 go_wp2_with fail
 go_ret
 exact ⟨ua,_,uc,xs,rfl,B2.out,O2.out,C2.out⟩
theorem lists_raw {α:Type} {R:Rep α} {p:Nat->Prop} {w:World} {a:Option Addr} {L:List (List α)} (h:RowAt (sliceR R) p w a L):∃ ins:List Value,ins.length=L.length/\RawAt w a ins/\∀ t (ht:t<L.length) (hi:t<ins.length),∃ ra rc,ins[t]=.slice ra L[t].length rc/\SlV R p w (.slice ra L[t].length rc) L[t]:=by
 rcases h with rfl|⟨b,off,rfl,hp,hb,h⟩
 · exact ⟨[],rfl,fun _ _ j u hj=>by simp at hj,fun t ht=>by cases ht⟩
 · have hx:∀ t (ht:t<L.length),∃ v ra rc,w.cell? ⟨b,off+t,none⟩=some v/\v=.slice ra L[t].length rc/\SlV R p w (.slice ra L[t].length rc) L[t]:=fun t ht=>by
    obtain ⟨cs,h1,ra,rc,rfl,h2,h3,h4⟩:=h t ht
    have:=h1 0 (by show 0<1;decide)
    simp only [sliceR,Nat.mul_one,Nat.add_zero,List.getElem?_cons_zero] at this
    exact ⟨_,ra,rc,this,rfl,ra,rc,rfl,h2,h3,h4⟩
   have hf:∃ f:Nat->Value,∀ t (ht:t<L.length),∃ ra rc,w.cell? ⟨b,off+t,none⟩=some (f t)/\f t=.slice ra L[t].length rc/\SlV R p w (.slice ra L[t].length rc) L[t]:=by
    refine ⟨fun t=>if ht:t<L.length then (hx t ht).choose else .slice none 0 0,fun t ht=>?_⟩
    simp only [dif_pos ht]
    exact (hx t ht).choose_spec
   obtain ⟨f,hf⟩:=hf
   refine ⟨(List.range L.length).map f,by simp,?_,fun t ht hi=>?_⟩
   · rintro ad e j u hj
     cases e
     rw [addr_add]
     rw [List.getElem?_map] at hj
     by_cases hjl:j<L.length
     · rw [List.getElem?_range hjl] at hj
       simp only [Option.map_some,Option.some.injEq] at hj
       subst hj
       obtain ⟨_,_,h1,_⟩:=hf j hjl
       exact h1
     · rw [List.getElem?_eq_none (by simpa using hjl)] at hj
       simp at hj
   · obtain ⟨ra,rc,_,h2,h3⟩:=hf t ht
     exact ⟨ra,rc,by simpa using h2,h3⟩
def OApart (outs:List Value):Prop:=∀ s t (_:s<outs.length) (_:t<outs.length),s ≠ t->∀ g,outs[s].ownBlock=some g->outs[t].ownBlock ≠ some g
theorem OApart.snoc {outs:List Value} {v:Value} (h:OApart outs) (hv:∀ t (_:t<outs.length) g,outs[t].ownBlock=some g->v.ownBlock ≠ some g):OApart (outs ++ [v]):=by
 intro s t hs ht hst g hg
 have hlen:(outs ++ [v]).length=outs.length+1:=by simp
 rw [hlen] at hs ht
 rcases Nat.lt_or_eq_of_le (Nat.le_of_lt_succ hs) with hs|rfl
 · rcases Nat.lt_or_eq_of_le (Nat.le_of_lt_succ ht) with ht|rfl
   · simp only [List.getElem_append_left hs] at hg
     simp only [List.getElem_append_left ht]
     exact h s t hs ht hst g hg
   · simp only [List.getElem_append_left hs] at hg
     simp only [List.getElem_append_right (jR _),Nat.sub_self,List.getElem_cons_zero]
     exact hv s hs g hg
 · have ht:t<outs.length:=by omega
   simp only [List.getElem_append_right (jR _),Nat.sub_self,List.getElem_cons_zero] at hg
   simp only [List.getElem_append_left ht]
   exact fun e=>hv t ht g e hg
theorem lists_owned {p:Nat->Prop} {a:Option Addr} {c b:Nat} {L:List (List (List Val))} {w:World} (h:SlV rowsR p w (.slice a L.length c) L) (hL:L.length<=1000000) (hl:∀ x ∈ L,x.length<=1000000) (hr:∀ x ∈ L,∀ y ∈ x,y.length<=1000000) (hb:w.heap[b]? = some (.cells #[.func (.func 127) #[] #[]] 104 (0,0))) :
 Calls Tryz.prog 129 #[.slice a L.length c,.func (.func 130) #[] #[.pointer (some ⟨b,0,none⟩)]] w fun e w'=>∃ v outs,e=.returned v/\w'.ownsRow w.heap.size 41 1 v L.length outs/\Below w.heap.size w w'/\Copies2 w.heap.size L L.length outs w'/\OApart outs:=by
 obtain ⟨_,_,_,hrow⟩:=h.row
 obtain ⟨ins,hin1,hin2,hin3⟩:=lists_raw hrow
 refine apply_ll (g:=130) (cb:=#[.pointer (some ⟨b,0,none⟩)]) (ins:=ins) (enters_of Tryz.func130 (by kernel_rfl) rfl) (row_nil hrow) (fun h0 ad e=>?_) hin2 hin1 (by omega) (fun k outs wz=>Copies2 w.heap.size L k outs wz/\OApart outs) ⟨⟨rfl,fun t ht=>by cases ht⟩,fun s t hs=>by cases hs⟩ (fun k outs w1 w2 r h hr hg=>⟨copies2_keeps _ _ _ _ _ _ (by decide) (by decide) w1 w2 r h.1 hr hg,h.2⟩) (fun k hk outs w1 b1 hc0=>?_)
 · obtain ⟨b,off,ha,_⟩:=hrow.addr (by intro e;rw [e] at h0;cases h0)
   rw [ha] at e;cases e;rfl
 · obtain ⟨hc,hap⟩:=hc0
   have hkl:k<L.length:=by omega
   obtain ⟨ra,rc,hv,hs⟩:=hin3 k hkl hk
   have:=own2_any (w:=w1) (hs.below b1) (hl _ (List.getElem_mem hkl)) (hr _ (List.getElem_mem hkl)) ((b1.block _ (jB hb)).trans hb)
   rw [hv]
   refine Calls.mono this ?_
   rintro e w2 ⟨ua,un,uc,xs,rfl,b2,o2,c2⟩
   refine ⟨ua,un,uc,rfl,b2,⟨by rw [List.length_append,hc.1];rfl,fun t ht hl=>?_⟩,hap.snoc fun t ht g hg hv=>?_⟩
   by_cases htk:t<k
   · have ht':t<outs.length:=by rw [hc.1];exact htk
     rw [List.getElem_append_left ht']
     obtain ⟨ys,o3,c3,c4⟩:=hc.2 t ht' hl
     exact ⟨ys,owns_below o3 b2,c3,fun t h1 h2=>owns_below (c4 t h1 h2) b2⟩
   · have:t=k:=by rw [List.length_append,hc.1] at ht;simp at ht;omega
     subst this
     rw [List.getElem_append_right (by rw [hc.1];exact jR _)]
     simp only [hc.1,Nat.sub_self,List.getElem_cons_zero]
     exact ⟨xs,owns_base o2 b1.size,c2.1,fun t h1 h2=>owns_base (c2.2 t h1 h2) b1.size⟩
   · have hl:=hc.1
     obtain ⟨_,o3,_⟩:=hc.2 t ht (by omega)
     have:=(o3.lt g hg).2
     have:=(o2.lt g hv).1
     omega
end
section
open Go.RowKit
theorem flat_part {α:Type} {enc:α->List Value} {sz:Nat} (hl:∀ x,(enc x).length=sz):∀ (M:List α) (t:Nat) (ht:t<M.length),List.take sz (List.drop (t * sz) (M.flatMap enc))=enc M[t]
 | [],t,ht=>by cases ht
 | x :: M,0,_=>by
  rw [List.flatMap_cons]
  simp only [Nat.zero_mul,List.drop_zero,List.getElem_cons_zero]
  rw [List.take_append_of_le_length (by rw [hl];exact jR _),List.take_of_length_le (by rw [hl];exact jR _)]
 | x :: M,t+1,ht=>by
  rw [List.flatMap_cons]
  have e2:(t+1) * sz=(enc x).length+t * sz:=by rw [Nat.add_mul,Nat.one_mul,hl];omega
  have e3:List.drop ((enc x).length+t * sz) (enc x ++ M.flatMap enc)=List.drop (t * sz) (M.flatMap enc):=by simp [List.drop_append]
  rw [e2,e3]
  simpa using flat_part hl M t (by simpa using ht)
theorem owns_set {w:World} {B:Nat} {e:TypeId} {sz:Nat} {v:Value} {n:Nat} {xs:List Value} {p:Addr} {x:Value} (h:w.ownsRow B e sz v n xs) (hp:p.block<B):(w.setCell p x).ownsRow B e sz v n xs:=by
 have hb:Below p.block w (w.setCell p x):=(b0R).setCell (jR _) x
 refine h.kept (row:=some p.block) ⟨hb.os,hb.tape,hb.output,hb.size,fun c _ hc=>?_⟩ ?_
 · exact Below.heap_setCell w p x c (fun e=>hc (by rw [e]))
 · cases hv:v.ownBlock with
   | none=>left;rfl
   | some k =>
    right
    have:=(h.lt k hv).1
    intro e
    simp only [Option.some.injEq] at e
    omega
theorem keeps_owns {B':Nat} {T:TypeId} {B:Nat} {e:TypeId} {sz:Nat} {v:Value} {n:Nat} {xs:List Value} (hT:e ≠ T):Keeps B' T (fun w=>w.ownsRow B e sz v n xs):=by
 intro w1 w2 r h hr hg
 refine h.kept hg ?_
 rcases h.2 with ⟨e',_⟩|⟨g,cap,cur,e',_,hgb,_⟩
 · left;rw [e'];rfl
 · right
   rw [e']
   intro e2
   have e3:r=some g:=by rw [<- e2];rfl
   exact hT ((hr g e3).2 _ _ _ hgb)
theorem ints_owned {w:World} {B:Nat} {v:Value} {L:List Int} (h:w.ownsRow B 3 1 v L.length (L.map (.int .i64))) (hL:L.length<=140737488355328):SlV intR (fun k=>B<=k) w v L:=by
 obtain ⟨a,c,hv,h3,h4,_⟩:=RowAt.of_owns (R:=intR) (p:=fun k=>B<=k) h (fun _ h=>h) (fun t ht=>by
  show List.take 1 (List.drop (t * 1) (L.map (Value.int .i64)))=[.int .i64 L[t]]
  rw [Nat.mul_one,List.drop_eq_getElem_cons (by simpa using ht)]
  simp)
 exact ⟨a,c,hv,h3,hL,h4⟩
theorem int_raw {p:Nat->Prop} {w:World} {a:Option Addr} {L:List Int} (h:RowAt intR p w a L):RawAt w a (L.map (.int .i64)):=by
 rintro ad rfl j u hj
 rcases h with rfl|⟨b,off,ha,_,_,h⟩
 · simp at hj
 · simp only [Option.some.injEq] at ha
   subst ha
   rw [List.getElem?_map] at hj
   by_cases hl:j<L.length
   · obtain ⟨cs,h1,rfl⟩:=h j hl
     rw [List.getElem?_eq_getElem hl] at hj
     simp only [Option.map_some,Option.some.injEq] at hj
     subst hj
     rw [addr_add]
     simpa [intR] using h1 0 (by simp [intR])
   · rw [List.getElem?_eq_none (by omega)] at hj
     simp at hj
theorem int_cells (L:List Int):∀ u ∈ L.map (Value.int .i64),u.oneCell'=true:=by
 intro u hu
 obtain ⟨x,_,rfl⟩:=List.mem_map.1 hu
 rfl
theorem col_cells (L:List (ByteArray × Int)):∀ u ∈ L.flatMap colEnc,u.oneCell'=true:=by
 intro u hu
 obtain ⟨x,_,hx⟩:=List.mem_flatMap.1 hu
 simp [colEnc] at hx
 rcases hx with rfl|rfl <;> rfl
def ixCells (q:Ix × Value):List Value:=[.string q.1.name,q.2,.int .i64 q.1.root]
def tabCells (q:Tab × Value × Value):List Value:=[.int .i64 q.1.id,.string q.1.name,q.2.1,q.2.2]
def ColOwn (B:Nat) (C:List (ByteArray × Int)) (v:Value) (w:World):Prop:=w.ownsRow B 118 2 v C.length (C.flatMap colEnc)
def IxParts (B:Nat) (L:List Ix) (vs:List Value) (w:World):Prop:=∀ t (_:t<L.length) (_:t<vs.length),w.ownsRow B 3 1 vs[t] L[t].cols.length (L[t].cols.map (.int .i64))
def IxOwn (B:Nat) (L:List Ix) (v:Value) (w:World):Prop:=∃ vs:List Value,vs.length=L.length/\w.ownsRow B 114 3 v L.length ((L.zip vs).flatMap ixCells)/\IxParts B L vs w
def TabParts (B:Nat) (C:List Tab) (vs:List (Value × Value)) (w:World):Prop:=∀ t (_:t<C.length) (_:t<vs.length),ColOwn B C[t].cols vs[t].1 w/\IxOwn B C[t].idx vs[t].2 w
theorem IxParts.below {B:Nat} {L:List Ix} {vs:List Value} {w w':World} (h:IxParts B L vs w) (hb:Below w.heap.size w w'):IxParts B L vs w':=fun t h1 h2=>owns_below (h t h1 h2) hb
theorem IxOwn.below {B:Nat} {L:List Ix} {v:Value} {w w':World} (h:IxOwn B L v w) (hb:Below w.heap.size w w'):IxOwn B L v w':=by
 obtain ⟨vs,h1,h2,h3⟩:=h
 exact ⟨vs,h1,owns_below h2 hb,h3.below hb⟩
theorem IxOwn.base {B B':Nat} {L:List Ix} {v:Value} {w:World} (h:IxOwn B L v w) (hb:B'<=B):IxOwn B' L v w:=by
 obtain ⟨vs,h1,h2,h3⟩:=h
 exact ⟨vs,h1,owns_base h2 hb,fun t k1 k2=>owns_base (h3 t k1 k2) hb⟩
theorem IxOwn.set {B:Nat} {L:List Ix} {v:Value} {w:World} {p:Addr} {x:Value} (h:IxOwn B L v w) (hp:p.block<B):IxOwn B L v (w.setCell p x):=by
 obtain ⟨vs,h1,h2,h3⟩:=h
 exact ⟨vs,h1,owns_set h2 hp,fun t k1 k2=>owns_set (h3 t k1 k2) hp⟩
theorem ixParts_keeps (B B':Nat) (L:List Ix) (vs:List Value) (T:TypeId) (hT:3 ≠ T):Keeps B' T (IxParts B L vs) :=
 fun w1 w2 r h hr hg t k1 k2=>keeps_owns (B':=B') hT w1 w2 r (h t k1 k2) hr hg
theorem ixOwn_keeps (B B':Nat) (L:List Ix) (v:Value) (T:TypeId) (hT:3 ≠ T) (hT2:114 ≠ T):Keeps B' T (IxOwn B L v):=by
 rintro w1 w2 r ⟨vs,h1,h2,h3⟩ hr hg
 exact ⟨vs,h1,keeps_owns (B':=B') hT2 w1 w2 r h2 hr hg,ixParts_keeps B B' L vs T hT w1 w2 r h3 hr hg⟩
theorem tabParts_keeps (B B':Nat) (C:List Tab) (vs:List (Value × Value)) (T:TypeId) (h1:3 ≠ T) (h2:114 ≠ T) (h3:118 ≠ T):Keeps B' T (TabParts B C vs) :=
 fun w1 w2 r h hr hg t k1 k2=>⟨keeps_owns (B':=B') h3 w1 w2 r (h t k1 k2).1 hr hg,ixOwn_keeps B B' _ _ T h1 h2 w1 w2 r (h t k1 k2).2 hr hg⟩
theorem TabParts.below {B:Nat} {C:List Tab} {vs:List (Value × Value)} {w w':World} (h:TabParts B C vs w) (hb:Below w.heap.size w w'):TabParts B C vs w':=fun t h1 h2=>⟨owns_below (h t h1 h2).1 hb,(h t h1 h2).2.below hb⟩
theorem colOwn_sl {B:Nat} {C:List (ByteArray × Int)} {v:Value} {w:World} (h:ColOwn B C v w) (hC:C.length<=140737488355328):SlV colR (fun k=>B<=k) w v C:=sl_owned (enc:=colEnc) (sz:=2) (hl:=fun _=>rfl) h hC
theorem zip_flat {α β:Type} {L:List α} {vs:List β} (hl:vs.length=L.length):(L.zip vs).length=L.length:=by rw [List.length_zip];omega
theorem ixOwn_sl {B:Nat} {L:List Ix} {v:Value} {w:World} (h:IxOwn B L v w) (hL:L.length<=140737488355328) (hc:∀ x ∈ L,x.cols.length<=140737488355328):SlV ixR (fun k=>B<=k) w v L:=by
 obtain ⟨vs,h1,h2,h3⟩:=h
 obtain ⟨a,c,hv,h4,h5,_⟩:=RowAt.of_owns (R:=ixR) (p:=fun k=>B<=k) h2 (fun _ h=>h) (fun t ht=>by
  have hz:t<(L.zip vs).length:=by rw [zip_flat h1];exact ht
  have e:=flat_part (enc:=ixCells) (sz:=3) (fun _=>rfl) (L.zip vs) t hz
  show ixR.ok _ w (List.take 3 (List.drop (t * 3) ((L.zip vs).flatMap ixCells))) L[t]
  rw [e,List.getElem_zip]
  obtain ⟨a',c',hv',k1,_,k2⟩:=ints_owned (h3 t ht (by omega)) (hc _ (List.getElem_mem ht))
  exact ⟨a',c',by show ixCells _=_;unfold ixCells;rw [<- hv'],k1,hc _ (List.getElem_mem ht),k2⟩)
 exact ⟨a,c,hv,h4,hL,h5⟩
theorem tabs_sl {B:Nat} {C:List Tab} {v:Value} {vs:List (Value × Value)} {w:World} (hl:vs.length=C.length) (h:w.ownsRow B 75 4 v C.length ((C.zip vs).flatMap tabCells)) (hp:TabParts B C vs w) (hC:C.length<=140737488355328)
 (hc:∀ t ∈ C,t.cols.length<=140737488355328/\t.idx.length<=140737488355328/\∀ x ∈ t.idx,x.cols.length<=140737488355328):SlV tabR (fun k=>B<=k) w v C:=by
 obtain ⟨a,c,hv,h4,h5,_⟩:=RowAt.of_owns (R:=tabR) (p:=fun k=>B<=k) h (fun _ h=>h) (fun t ht=>by
  have hz:t<(C.zip vs).length:=by rw [zip_flat hl];exact ht
  have e:=flat_part (enc:=tabCells) (sz:=4) (fun _=>rfl) (C.zip vs) t hz
  show tabR.ok _ w (List.take 4 (List.drop (t * 4) ((C.zip vs).flatMap tabCells))) C[t]
  rw [e,List.getElem_zip]
  obtain ⟨c1,c2,c3⟩:=hc _ (List.getElem_mem ht)
  obtain ⟨p1,p2⟩:=hp t ht (by omega)
  obtain ⟨ac,cc,hv1,s1⟩:=colOwn_sl p1 c1
  obtain ⟨ai,ci,hv2,s2⟩:=ixOwn_sl p2 c2 c3
  exact ⟨ac,cc,ai,ci,by show tabCells _=_;unfold tabCells;rw [<- hv1,<- hv2],⟨ac,cc,rfl,s1⟩,⟨ai,ci,rfl,s2⟩⟩)
 exact ⟨a,c,hv,h4,hC,h5⟩
end
section
open Go.RowKit
theorem copied1_any {p:Nat->Prop} {a:Option Addr} {n c:Nat} {nm:ByteArray} {L:List Int} {rt:Int} {w:World} (h:SlV intR p w (.slice a n c) L) (hL:L.length<=1000000) :
 Calls Tryz.prog 155 #[.agg #[.string nm,.slice a n c,.int .i64 rt]] w fun e w'=>∃ (ua:Option Addr) (uc:Nat),e=.returned (.agg #[.string nm,.slice ua L.length uc,.int .i64 rt])/\Below w.heap.size w w'/\w'.ownsRow w.heap.size 3 1 (.slice ua L.length uc) L.length (L.map (.int .i64)):=by
 obtain ⟨rfl,_,_,_⟩:=h.row
 have H:=hid h
 clear h
 go_enter Tryz.func155,Tryz.ntmps155
 go_upto_region 1 with (fail)
 generalize hW:World.alloc _ _=W
 have hA':allocs w [_,_]=W:=hW
 have hq:W.heap[w.heap.size]? = some (.cells #[.string nm,.slice a L.length c,.int .i64 rt] 114 (0,0)):=allocs_get hA' 0 rfl
 have hr:W.heap[w.heap.size+1]? = some (.cells #[.string ⟨#[]⟩,.slice none 0 0,.int .i64 0] 114 (0,0)):=allocs_get hA' 1 rfl
 have hb:=allocs_self hA'
 have hsz:W.heap.size=w.heap.size+2:=by rw [<- hA',allocs_size];rfl
 have BW:=hid hb
 have QW:=hid hq
 have RW:=hid hr
 have HS:=hid hsz
 obtain ⟨_,_,_,hrow⟩:=(H.out.below hb).row
 have con:=clone_ints (w:=W) (c:=c) (n:=L.length) (row_nil hrow) (int_raw hrow) (by simp) (int_cells L) (by omega)
 have q1:=jC hq 1
 simp only [gT,gZ,gS] at q1
 clear hA' hW hq hr hb hrow H hsz
 go_wp2_with fail
 refine con.mono ?_
 rintro e w2 ⟨v,rfl,o2,b2⟩
 obtain ⟨ua,uc,hv,_⟩:=owns_shape' o2
 subst hv
 have O2:=hid o2
 have B2:=hid (BW.out.trans (b2.mono BW.out.size))
 have hq2:=(b2.block _ (jB QW.out)).trans QW.out
 have hr2:=(b2.block _ (jB RW.out)).trans RW.out
 have g0:=jC hq2 0
 have g1:=jC hq2 1
 have g2:=jC hq2 2
 have r0:=jC hr2 0
 have r1:=jC hr2 1
 have r2:=jC hr2 2
 have f1:=free_of hq2 1
 have k0:=free_of hr2 0
 have k1:=free_of hr2 1
 have k2:=free_of hr2 2
 simp only [gT,gZ,gS] at g0 g1 g2 r0 r1 r2
 clear con o2 b2 q1 hq2 hr2
 go_wp2_with fail
 refine bodyPost_ret (v:=.agg #[.string nm,.slice ua L.length uc,.int .i64 rt]) (by simp [results,Tryz.results155,go_sem,g0,g1,g2,r0,r1,r2,f1,k0,k1,k2]) rfl ?_
 refine ⟨ua,uc,rfl,?_,?_⟩
 · exact (((B2.out.setCell (p:=⟨w.heap.size,1,none⟩) (jR _) _).setCell (p:=⟨w.heap.size+1,0,none⟩) (by simp) _).setCell (p:=⟨w.heap.size+1,1,none⟩) (by simp) _).setCell (p:=⟨w.heap.size+1,2,none⟩) (by simp) _
 · have hs:=HS.out
   exact owns_base (owns_set (owns_set (owns_set (owns_set O2.out (p:=⟨w.heap.size,1,none⟩) (by simp;omega)) (p:=⟨w.heap.size+1,0,none⟩) (by simp;omega)) (p:=⟨w.heap.size+1,1,none⟩) (by simp;omega)) (p:=⟨w.heap.size+1,2,none⟩) (by simp;omega)) (by omega)
def IxRows (B:Nat) (L:List Ix) (k:Nat) (outs:List Value) (w:World):Prop:=∃ vs:List Value,vs.length=k/\outs=((L.take k).zip vs).flatMap ixCells/\IxParts B L vs w
theorem ixRows_keeps (B B':Nat) (L:List Ix) (k:Nat) (outs:List Value):Keeps B' 114 (IxRows B L k outs):=by
 rintro w1 w2 r ⟨vs,h1,h2,h3⟩ hr hg
 exact ⟨vs,h1,h2,ixParts_keeps B B' L vs _ (by decide) w1 w2 r h3 hr hg⟩
theorem zip_snoc {α β:Type} {L:List α} {k:Nat} {vs:List β} {v:β} (hk:k<L.length) (hl:vs.length=k):(L.take (k+1)).zip (vs ++ [v])=(L.take k).zip vs ++ [(L[k],v)]:=by
 rw [List.take_succ_eq_append_getElem hk,List.zip_append (by rw [List.length_take];omega)]
 rfl
def ixAt (L:List Ix) (t:Nat):Ix:=(L[t]?).getD ⟨noStr,[],0⟩
theorem ixAt_eq {L:List Ix} {t:Nat} (h:t<L.length):ixAt L t=L[t]:=by
 unfold ixAt
 rw [List.getElem?_eq_getElem h];rfl
theorem copy_ix {p:Nat->Prop} {a:Option Addr} {c:Nat} {L:List Ix} {w:World} (h:SlV ixR p w (.slice a L.length c) L) (hL:L.length<=1000000) (hc:∀ x ∈ L,x.cols.length<=1000000) :
 Calls Tryz.prog 154 #[.slice a L.length c,.func (.func 155) #[] #[]] w fun e w'=>∃ v,e=.returned v/\Below w.heap.size w w'/\IxOwn w.heap.size L v w':=by
 obtain ⟨_,_,_,hrow⟩:=h.row
 have hx:∀ t,∃ q:Option Addr × Nat,∀ (ht:t<L.length),(∀ b off,a=some ⟨b,off,none⟩->w.cell? ⟨b,off+t * 3+1,none⟩=some (.slice q.1 L[t].cols.length q.2))/\SlV intR p w (.slice q.1 L[t].cols.length q.2) L[t].cols:=by
  intro t
  by_cases ht:t<L.length
  · obtain ⟨b,off,rfl,_⟩:=hrow.addr (by intro e;rw [e] at ht;cases ht)
    obtain ⟨ia,ic,_,h1,_,h2⟩:=hrow.ix t ht
    refine ⟨(ia,ic),fun _=>⟨fun b' off' e=>?_,h2⟩⟩
    simp only [Option.some.injEq,Addr.mk.injEq] at e
    obtain ⟨rfl,rfl,_⟩:=e
    exact h1
  · exact ⟨(none,0),fun h=>absurd h ht⟩
 obtain ⟨q,hq⟩:=Classical.axiomOfChoice hx
 refine Calls.mono (each_eix (cb:=#[]) (c:=c) (xs0:=fun t=>(ixAt L t).name) (xa1:=fun t=>(q t).1) (xn1:=fun t=>(ixAt L t).cols.length) (xc1:=fun t=>(q t).2) (xi2:=fun t=>(ixAt L t).root) (enters_of Tryz.func155 (by kernel_rfl) rfl) (by omega) (fun h0=>?_) (IxRows w.heap.size L) ⟨[],rfl,by simp,fun t _ h=>by cases h⟩ (fun k outs=>ixRows_keeps _ _ _ _ _) (fun t ht outs w1 b1 hI=>?_)) ?_
 · obtain ⟨b,off,rfl,_,hbl⟩:=hrow.addr (by intro e;rw [e] at h0;cases h0)
   refine ⟨b,off,rfl,hbl,fun t ht=>?_⟩
   obtain ⟨ia,ic,g0,g1,g2,_⟩:=hrow.ix t ht
   rw [ixAt_eq ht]
   exact ⟨g0,(hq t ht).1 b off rfl,g2⟩
 · rw [ixAt_eq ht]
   refine Calls.mono (copied1_any ((hq t ht).2.below b1) (hc _ (List.getElem_mem ht))) ?_
   rintro e w2 ⟨ua,uc,rfl,b2,o2⟩
   obtain ⟨vs,k1,k2,k3⟩:=hI
   refine ⟨_,ua,_,uc,_,rfl,b2,vs ++ [.slice ua L[t].cols.length uc],by simp [k1],?_,fun s hs hs'=>?_⟩
   · rw [zip_snoc ht k1,List.flatMap_append,<- k2]
     simp [ixCells]
   · by_cases hst:s<t
     · rw [List.getElem_append_left (by omega)]
       exact owns_below (k3 s hs (by omega)) b2
     · have:s=t:=by rw [List.length_append,k1] at hs';simp at hs';omega
       subst this
       rw [List.getElem_append_right (by omega)]
       simp only [k1,Nat.sub_self,List.getElem_cons_zero]
       exact owns_base o2 b1.size
 · rintro e w' ⟨v,outs,rfl,o,b,vs,k1,k2,k3⟩
   refine ⟨v,rfl,b,vs,k1,?_,k3⟩
   rw [List.take_length] at k2
   rw [<- k2]
   exact o
theorem copied_any {p:Nat->Prop} {ac ai:Option Addr} {nc cc ni ci:Nat} {id:Int} {nm:ByteArray} {C:List (ByteArray × Int)} {L:List Ix} {w:World} (h1:SlV colR p w (.slice ac nc cc) C) (h2:SlV ixR p w (.slice ai ni ci) L) (hC:C.length<=1000000) (hL:L.length<=1000000) (hc:∀ x ∈ L,x.cols.length<=1000000) :
 Calls Tryz.prog 132 #[.agg #[.int .i64 id,.string nm,.slice ac nc cc,.slice ai ni ci]] w fun e w'=>∃ (ua:Option Addr) (uc:Nat) (va:Option Addr) (vc:Nat),e=.returned (.agg #[.int .i64 id,.string nm,.slice ua C.length uc,.slice va L.length vc])/\Below w.heap.size w w'/\ColOwn w.heap.size C (.slice ua C.length uc) w'/\IxOwn w.heap.size L (.slice va L.length vc) w':=by
 obtain ⟨rfl,_,_,_⟩:=h1.row
 obtain ⟨rfl,_,_,_⟩:=h2.row
 have H1:=hid h1
 have H2:=hid h2
 have HC:=hid hc
 clear h1 h2 hc
 go_enter Tryz.func132,Tryz.ntmps132
 go_upto_region 1 with (fail)
 generalize hW:World.alloc _ _=W
 have hA':allocs w [_,_]=W:=hW
 have hq:W.heap[w.heap.size]? = some (.cells #[.int .i64 id,.string nm,.slice ac C.length cc,.slice ai L.length ci] 75 (0,0)):=allocs_get hA' 0 rfl
 have hr:W.heap[w.heap.size+1]? = some (.cells #[.int .i64 0,.string ⟨#[]⟩,.slice none 0 0,.slice none 0 0] 75 (0,0)):=allocs_get hA' 1 rfl
 have hb:=allocs_self hA'
 have hsz:W.heap.size=w.heap.size+2:=by rw [<- hA',allocs_size];rfl
 have BW:=hid hb
 have QW:=hid hq
 have RW:=hid hr
 have HS:=hid hsz
 obtain ⟨_,_,_,hrow⟩:=(H1.out.below hb).row
 have con:=clone_cols (w:=W) (c:=cc) (n:=C.length) (row_nil hrow) (row_raw hrow) (flat_len (enc:=colEnc) (sz:=2) (fun _=>rfl) C) (col_cells C) (by omega)
 have q2:=jC hq 2
 simp only [gT,gZ,gS] at q2
 clear hA' hW hq hr hb hrow H1 hsz
 go_wp2_with fail
 refine con.mono ?_
 rintro e w2 ⟨v,rfl,o2,b2⟩
 obtain ⟨ua,uc,hv,_⟩:=owns_shape' o2
 subst hv
 have O2:=hid o2
 have B2:=hid (BW.out.trans (b2.mono BW.out.size))
 have hq2:=(b2.block _ (jB QW.out)).trans QW.out
 have hr2:=(b2.block _ (jB RW.out)).trans RW.out
 have g2:=jC hq2 2
 have f2:=free_of hq2 2
 simp only [gT,gZ,gS] at g2
 have HB2:=hid b2.size
 clear con o2 b2 q2
 go_upto_region 2 with (fail)
 generalize hV:World.setCell _ _ _=V
 have hqV:V.heap[w.heap.size]? = some (.cells #[.int .i64 id,.string nm,.slice ua C.length uc,.slice ai L.length ci] 75 (0,0)):=by rw [<- hV];exact (heap_setCell_same _ _ _ _ _ _ hq2).trans rfl
 have hrV:V.heap[w.heap.size+1]? = some (.cells #[.int .i64 0,.string ⟨#[]⟩,.slice none 0 0,.slice none 0 0] 75 (0,0)):=by rw [<- hV];exact (heap_setCell_other _ _ _ _ (by simp)).trans hr2
 have hsV:V.heap.size=w2.heap.size:=by rw [<- hV];simp
 have OV:=hid (show ColOwn W.heap.size C (.slice ua C.length uc) V from by rw [<- hV];exact owns_set O2.out (by have:=HS.out;simp;omega))
 have BV:=hid (show Below w.heap.size w V from by rw [<- hV];exact B2.out.setCell (p:=⟨w.heap.size,2,none⟩) (jR _) _)
 have hszV:=Nat.le_trans (Nat.le_of_eq HS.out.symm) (Nat.le_trans HB2.out (Nat.le_of_eq hsV.symm))
 have HSV:=hid hszV
 have QV:=hid hqV
 have RV:=hid hrV
 have con:=copy_ix (H2.out.below BV.out) hL HC.out
 have q3:=jC hqV 3
 simp only [gT,gZ,gS] at q3
 clear hV hqV hrV hsV hszV hq2 hr2 HB2 g2 f2 H2 O2 B2
 go_wp2_with fail
 refine con.mono ?_
 rintro e w3 ⟨v,rfl,b3,o3⟩
 obtain ⟨va,vc,hv,_⟩:∃ va vc,v=.slice va L.length vc/\(va=none->L.length=0):=by
  obtain ⟨vs,_,h2,_⟩:=o3
  exact owns_shape' h2
 subst hv
 have O3:=hid o3
 have C3:=hid (show ColOwn W.heap.size C (.slice ua C.length uc) w3 from owns_below OV.out b3)
 have B3:=hid (BV.out.trans (b3.mono BV.out.size))
 have hq3:=(b3.block _ (jB QV.out)).trans QV.out
 have hr3:=(b3.block _ (jB RV.out)).trans RV.out
 have g0:=jC hq3 0
 have g1:=jC hq3 1
 have g2:=jC hq3 2
 have g3:=jC hq3 3
 have r0:=jC hr3 0
 have r1:=jC hr3 1
 have r2:=jC hr3 2
 have r3:=jC hr3 3
 have f3:=free_of hq3 3
 have k0:=free_of hr3 0
 have k1:=free_of hr3 1
 have k2:=free_of hr3 2
 have k3:=free_of hr3 3
 simp only [gT,gZ,gS] at g0 g1 g2 g3 r0 r1 r2 r3
 clear con o3 b3 q3 hq3 hr3
 go_wp2_with fail
 refine bodyPost_ret (v:=.agg #[.int .i64 id,.string nm,.slice ua C.length uc,.slice va L.length vc]) (by simp [results,Tryz.results132,go_sem,g0,g1,g2,g3,r0,r1,r2,r3,f3,k0,k1,k2,k3]) rfl ?_
 have hs:=HS.out
 have hsv:=HSV.out
 refine ⟨ua,uc,va,vc,rfl,?_,?_,?_⟩
 · exact ((((B3.out.setCell (p:=⟨w.heap.size,3,none⟩) (jR _) _).setCell (p:=⟨w.heap.size+1,0,none⟩) (by simp) _).setCell (p:=⟨w.heap.size+1,1,none⟩) (by simp) _).setCell (p:=⟨w.heap.size+1,2,none⟩) (by simp) _).setCell (p:=⟨w.heap.size+1,3,none⟩) (by simp) _
 · exact owns_base (owns_set (owns_set (owns_set (owns_set (owns_set C3.out (p:=⟨w.heap.size,3,none⟩) (by simp;omega)) (p:=⟨w.heap.size+1,0,none⟩) (by simp;omega)) (p:=⟨w.heap.size+1,1,none⟩) (by simp;omega)) (p:=⟨w.heap.size+1,2,none⟩) (by simp;omega)) (p:=⟨w.heap.size+1,3,none⟩) (by simp;omega)) (by omega)
 · exact (((((O3.out.set (p:=⟨w.heap.size,3,none⟩) (by simp;omega)).set (p:=⟨w.heap.size+1,0,none⟩) (by simp;omega)).set (p:=⟨w.heap.size+1,1,none⟩) (by simp;omega)).set (p:=⟨w.heap.size+1,2,none⟩) (by simp;omega)).set (p:=⟨w.heap.size+1,3,none⟩) (by simp;omega)).base (by omega)
def TabRows (B:Nat) (L:List Tab) (k:Nat) (outs:List Value) (w:World):Prop:=∃ vs:List (Value × Value),vs.length=k/\outs=((L.take k).zip vs).flatMap tabCells/\TabParts B L vs w
theorem tabRows_keeps (B B':Nat) (L:List Tab) (k:Nat) (outs:List Value):Keeps B' 75 (TabRows B L k outs):=by
 rintro w1 w2 r ⟨vs,h1,h2,h3⟩ hr hg
 exact ⟨vs,h1,h2,tabParts_keeps B B' L vs _ (by decide) (by decide) (by decide) w1 w2 r h3 hr hg⟩
def tabAtN (L:List Tab) (t:Nat):Tab:=(L[t]?).getD default
theorem tabAtN_eq {L:List Tab} {t:Nat} (h:t<L.length):tabAtN L t=L[t]:=by
 unfold tabAtN
 rw [List.getElem?_eq_getElem h];rfl
def TabsSmall (C:List Tab):Prop:=C.length<=1000000/\∀ t ∈ C,t.cols.length<=1000000/\t.idx.length<=1000000/\∀ x ∈ t.idx,x.cols.length<=1000000
theorem copy_tabs {p:Nat->Prop} {a:Option Addr} {c:Nat} {L:List Tab} {w:World} (h:SlV tabR p w (.slice a L.length c) L) (hs:TabsSmall L) :
 Calls Tryz.prog 131 #[.slice a L.length c,.func (.func 132) #[] #[]] w fun e w'=>∃ (va:Option Addr) (vc:Nat),e=.returned (.slice va L.length vc)/\Below w.heap.size w w'/\SlV tabR (fun k=>w.heap.size<=k) w' (.slice va L.length vc) L:=by
 obtain ⟨_,_,_,hrow⟩:=h.row
 have hx:∀ t,∃ q:(Option Addr × Nat) × (Option Addr × Nat),∀ (ht:t<L.length),(∀ b off,a=some ⟨b,off,none⟩->w.cell? ⟨b,off+t * 4+2,none⟩=some (.slice q.1.1 L[t].cols.length q.1.2)/\w.cell? ⟨b,off+t * 4+3,none⟩=some (.slice q.2.1 L[t].idx.length q.2.2))/\SlV colR p w (.slice q.1.1 L[t].cols.length q.1.2) L[t].cols/\SlV ixR p w (.slice q.2.1 L[t].idx.length q.2.2) L[t].idx:=by
  intro t
  by_cases ht:t<L.length
  · obtain ⟨b,off,rfl,_⟩:=hrow.addr (by intro e;rw [e] at ht;cases ht)
    obtain ⟨ac,cc,ai,ci,_,_,h2,h3,hv⟩:=hrow.tab t ht
    obtain ⟨_,_,_,_,e,s1,s2⟩:=hv
    cases e
    refine ⟨((ac,cc),(ai,ci)),fun _=>⟨fun b' off' e=>?_,s1,s2⟩⟩
    simp only [Option.some.injEq,Addr.mk.injEq] at e
    obtain ⟨rfl,rfl,_⟩:=e
    exact ⟨h2,h3⟩
  · exact ⟨((none,0),(none,0)),fun h=>absurd h ht⟩
 obtain ⟨q,hq⟩:=Classical.axiomOfChoice hx
 refine Calls.mono (each_etab (cb:=#[]) (c:=c) (xi0:=fun t=>(tabAtN L t).id) (xs1:=fun t=>(tabAtN L t).name) (xa2:=fun t=>(q t).1.1) (xn2:=fun t=>(tabAtN L t).cols.length) (xc2:=fun t=>(q t).1.2) (xa3:=fun t=>(q t).2.1) (xn3:=fun t=>(tabAtN L t).idx.length) (xc3:=fun t=>(q t).2.2) (enters_of Tryz.func132 (by kernel_rfl) rfl) (by have:=hs.1;omega) (fun h0=>?_) (TabRows w.heap.size L) ⟨[],rfl,by simp,fun t _ h=>by cases h⟩ (fun k outs=>tabRows_keeps _ _ _ _ _) (fun t ht outs w1 b1 hI=>?_)) ?_
 · obtain ⟨b,off,rfl,_,hbl⟩:=hrow.addr (by intro e;rw [e] at h0;cases h0)
   refine ⟨b,off,rfl,hbl,fun t ht=>?_⟩
   obtain ⟨_,_,_,_,g0,g1,_,_,_⟩:=hrow.tab t ht
   rw [tabAtN_eq ht]
   exact ⟨g0,g1,((hq t ht).1 b off rfl).1,((hq t ht).1 b off rfl).2⟩
 · rw [tabAtN_eq ht]
   obtain ⟨s1,s2,s3⟩:=hs.2 _ (List.getElem_mem ht)
   refine Calls.mono (copied_any ((hq t ht).2.1.below b1) ((hq t ht).2.2.below b1) s1 s2 s3) ?_
   rintro e w2 ⟨ua,uc,va,vc,rfl,b2,o2,i2⟩
   obtain ⟨vs,k1,k2,k3⟩:=hI
   refine ⟨_,_,ua,_,uc,va,_,vc,rfl,b2,vs ++ [(.slice ua L[t].cols.length uc,.slice va L[t].idx.length vc)],by simp [k1],?_,fun s hs hs'=>?_⟩
   · rw [zip_snoc ht k1,List.flatMap_append,<- k2]
     simp [tabCells]
   · by_cases hst:s<t
     · rw [List.getElem_append_left (by omega)]
       have:=k3 s hs (by omega)
       exact ⟨owns_below this.1 b2,this.2.below b2⟩
     · have:s=t:=by rw [List.length_append,k1] at hs';simp at hs';omega
       subst this
       rw [List.getElem_append_right (by omega)]
       simp only [k1,Nat.sub_self,List.getElem_cons_zero]
       exact ⟨owns_base o2 b1.size,i2.base b1.size⟩
 · rintro e w' ⟨v,outs,rfl,o,b,vs,k1,k2,k3⟩
   rw [List.take_length] at k2
   rw [k2] at o
   obtain ⟨va,vc,rfl,_⟩:=owns_shape' o
   exact ⟨va,vc,rfl,b,tabs_sl k1 o k3 (by have:=hs.1;omega) (fun t ht=>by
    obtain ⟨s1,s2,s3⟩:=hs.2 t ht
    exact ⟨by omega,by omega,fun x hx=>by have:=s3 x hx;omega⟩)⟩
theorem all_any {p:Nat->Prop} {a:Option Addr} {c b:Nat} {L:List Tab} {w:World} (hb:w.heap[b]? = some (.cells #[.slice a L.length c] 166 (0,0))) (h:SlV tabR p w (.slice a L.length c) L) (hs:TabsSmall L) :
 Calls Tryz.prog 88 #[.pointer (some ⟨b,0,none⟩)] w fun e w'=>∃ (va:Option Addr) (vc:Nat),e=.returned (.slice va L.length vc)/\Below w.heap.size w w'/\SlV tabR (fun k=>w.heap.size<=k) w' (.slice va L.length vc) L:=by
 have con:=copy_tabs h hs
 have q0:=jC hb 0
 simp only [gT,gZ,gS] at q0
 clear hb h hs
 go_enter Tryz.func88,Tryz.ntmps88
 go_wp2_with fail
 refine con.mono ?_
 rintro e w2 ⟨va,vc,rfl,b2,s2⟩
 have B2:=hid b2
 have S2:=hid s2
 clear con b2 s2 q0
 go_wp2_with fail
 go_ret
 exact ⟨va,vc,rfl,B2.out,S2.out⟩
end
section
open Go.RowKit
theorem named_any (s:ByteArray) (w:World):Calls Tryz.prog 162 #[.string s] w fun e w'=>e=.returned (.bool (namedB s))/\w=w':=by
 have hz:s.toList.isEmpty=decide (s.size=0):=by
  rw [toList_data]
  obtain ⟨⟨l⟩⟩:=s
  cases l <;> simp [ByteArray.size]
 by_cases h1:s.size=0
 · have HF:=hid (show namedB s=false by unfold namedB;simp [h1])
   have h3:s.toList=[]:=by simpa [h1] using hz
   clear hz
   go_enter Tryz.func162,Tryz.ntmps162
   go_wp2_with fail
   go_ret
   exact ⟨by rw [HF.out];rfl,rfl⟩
 · have h3:s.toList.isEmpty=false:=by simpa [h1] using hz
   have h4:¬ s.toList=[]:=by simpa using h3
   have HF:=hid (show (!s.toList.isEmpty && decide ((s.size:Int)<=12))=namedB s by
    unfold namedB
    rw [h3]
    have:((s.size:Int)<=12)=(s.size<=12):=by simp;omega
    simp [h1,this])
   clear hz h3
   go_enter Tryz.func162,Tryz.ntmps162
   go_wp2_with fail
   go_ret
   exact ⟨by rw [<- HF.out];rfl,rfl⟩
theorem cfind1_any {b:Nat} {name nm:ByteArray} {v0 v2 v3:Value} {w:World} (h1:v0.oneCell'=true) (h2:v2.oneCell'=true) (h3:v3.oneCell'=true) (hb:w.heap[b]? = some (.cells #[.string name] 9 (0,0))) :
 Calls Tryz.prog 176 #[.agg #[v0,.string nm,v2,v3],.pointer (some ⟨b,0,none⟩)] w fun e w'=>e=.returned (.bool (sEq nm name))/\Below w.heap.size w w':=by
 obtain ⟨W1,hW1⟩:∃ W1,w.alloc (.cells #[v0,.string nm,v2,v3] 75)=W1:=⟨_,rfl⟩
 have hb1:Below w.heap.size w W1:=by rw [<- hW1];exact (b0R).alloc (jR _) _
 have hq:W1.heap[w.heap.size]? = some (.cells #[v0,.string nm,v2,v3] 75 (0,0)):=by rw [<- hW1];exact heap_alloc_new _ _
 have t1:=jC hq 1
 have q0:=jC ((hb1.block _ (jB hb)).trans hb) 0
 simp only [gT,gZ,gS] at t1 q0
 have B1:=hid hb1
 clear hb1 hq hb
 go_enter Tryz.func176,Tryz.ntmps176
 go_upto_region 1 with (fail)
 clear hW1
 go_wp2_with fail
 go_ret
 exact ⟨rfl,B1.out⟩
theorem cfind_any {p:Nat->Prop} {a1:Option Addr} {c1 b:Nat} {L:List Tab} {w:World} (hb:w.heap[b]? = some (.cells #[.slice a1 L.length c1] 166 (0,0))) (hL:SlV tabR p w (.slice a1 L.length c1) L) (name:ByteArray) :
 Calls Tryz.prog 168 #[.pointer (some ⟨b,0,none⟩),.string name] w fun e w'=>e=.returned (.int .i64 (findT L name))/\Below w.heap.size w w':=by
 obtain ⟨W2,hW2⟩:∃ W2,w.alloc (.cells #[.string name] 9)=W2:=⟨_,rfl⟩
 have hb2:Below w.heap.size w W2:=by rw [<- hW2];exact (b0R).alloc (jR _) _
 have t0:=jC ((hb2.block _ (jB hb)).trans hb) 0
 simp only [gT,gZ,gS] at t0
 have HBR:=hid (show W2.heap[w.heap.size]? = some (.cells #[.string name] 9 (0,0)) by rw [<- hW2];exact heap_alloc_new _ _)
 have HL:=hid (hL.below hb2)
 have B2:=hid hb2
 have con:Calls Tryz.prog 79 #[.slice a1 L.length c1,.func (.func 176) #[] #[.pointer (some ⟨w.heap.size,0,none⟩)]] W2 fun e w'=>e=.returned (.int .i64 (ixN (fun t=>sEq (nAt L t) name) L.length))/\Below W2.heap.size W2 w':=by
  obtain ⟨_,_,hmx,hrow⟩:=HL.out.row
  have key:∀ t,∃ x:Value × Value × Value,t<L.length->(∀ b off,a1=some ⟨b,off,none⟩->W2.cell? ⟨b,off+t * 4,none⟩=some x.1/\W2.cell? ⟨b,off+t * 4+1,none⟩=some (.string (nAt L t))/\W2.cell? ⟨b,off+t * 4+2,none⟩=some x.2.1/\W2.cell? ⟨b,off+t * 4+3,none⟩=some x.2.2)/\x.1.oneCell'=true/\x.2.1.oneCell'=true/\x.2.2.oneCell'=true:=by
   intro t
   by_cases ht:t<L.length
   · obtain ⟨b,off,rfl,_⟩:=hrow.addr (by intro e;rw [e] at ht;cases ht)
     obtain ⟨ac,cc,ai,ci,g0,g1,g2,g3,_⟩:=hrow.tab t ht
     refine ⟨⟨.int .i64 L[t].id,.slice ac L[t].cols.length cc,.slice ai L[t].idx.length ci⟩,fun _=>⟨fun b' off' e=>?_,rfl,rfl,rfl⟩⟩
     obtain ⟨rfl,rfl,_⟩:=(by simpa using e:b=b'/\off=off')
     rw [nAt_eq ht]
     exact ⟨g0,g1,g2,g3⟩
   · exact ⟨⟨.bool false,.bool false,.bool false⟩,fun h=>absurd h ht⟩
  obtain ⟨x,hx⟩:=Classical.axiomOfChoice key
  refine ixf_tab (x0:=fun t=>(x t).1) (x1:=fun t=>.string (nAt L t)) (x2:=fun t=>(x t).2.1) (x3:=fun t=>(x t).2.2) (fun t=>sEq (nAt L t) name) (enters_of Tryz.func176 (by kernel_rfl) rfl) hmx (fun h0=>?_) (fun t ht w1 b1=>?_)
  · obtain ⟨b,off,e,_,hbl⟩:=hrow.addr (by intro e;rw [e] at h0;cases h0)
    exact ⟨b,off,e,hbl,fun t ht=>(hx t ht).1 b off e⟩
  · exact cfind1_any (hx t ht).2.1 (hx t ht).2.2.1 (hx t ht).2.2.2 ((b1.block _ (jB HBR.out)).trans HBR.out)
 have HF:=hid ((findV_ix ⟨L,[]⟩ name).trans (findV_T ⟨L,[]⟩ name))
 simp only at HF
 generalize ixN _ _=f at con HF
 clear hL hb2 HL HBR hb
 go_enter Tryz.func168,Tryz.ntmps168
 go_upto_region 1 with (fail)
 clear hW2
 go_wp2_with fail
 refine con.mono ?_
 rintro e w2 ⟨rfl,b2⟩
 have B3:=hid (B2.out.trans (b2.mono B2.out.size))
 clear b2 con
 go_wp2_with fail
 go_ret
 exact ⟨by rw [<- HF.out];rfl,B3.out⟩
theorem cnew_any (w:World):Calls Tryz.prog 82 #[] w fun e w'=>e=.returned (.pointer (some ⟨w.heap.size,0,none⟩))/\w'=w.alloc (.cells #[.slice none 0 0] 166):=by
 go_enter Tryz.func82,Tryz.ntmps82
 go_wp2_with fail
 go_ret
 exact ⟨rfl,rfl⟩
end
end Go.Proofs.YtgemihkcihigpaaGreatDoor
