/- plain.Alike: two states hold the same tables and the same rows, in any order. -/
import Derived.Laws.EntriesVeiled
import Derived.Test.YtgemihkcihigpaaGreatDoorZD23
import Derived.Test.YtgemihkcihigpaaGreatDoorZD32
set_option linter.unusedVariables false
set_option linter.unusedSimpArgs false
set_option maxRecDepth 100000
set_option maxHeartbeats 64000000
namespace Go.Proofs.YtgemihkcihigpaaGreatDoor
open Go.Lib (hid)
section
open Go.RowKit
def eqX (x y:Ix):Bool:=(x.name.toList == y.name.toList) && eqInts x.cols y.cols
def eqIdx (x y:List Ix):Bool:=decide (x.length=y.length) && allN (fun t=>eqX (ixAt x t) (ixAt y t)) x.length
def eqT (x y:Tab):Bool:=(x.id == y.id) && ((x.name.toList == y.name.toList) && (eqCols x.cols y.cols && eqIdx x.idx y.idx))
def eqTabs (x y:List Tab):Bool:=decide (x.length=y.length) && allN (fun t=>eqT (tabAtN x t) (tabAtN y t)) x.length
def eqRs (x y:List (List Val)):Bool:=sameRows (sortBy cmpR x) (sortBy cmpR y)
def rsAt (L:List (List (List Val))) (t:Nat):List (List Val):=(L[t]?).getD []
theorem rsAt_eq {L:List (List (List Val))} {t:Nat} (h:t<L.length):rsAt L t=L[t]:=by
 unfold rsAt
 rw [List.getElem?_eq_getElem h];rfl
def eqAll (x y:List (List (List Val))):Bool:=decide (x.length=y.length) && allN (fun t=>eqRs (rsAt x t) (rsAt y t)) x.length
def alikeV (s t:StV):Bool:=eqTabs s.tabs t.tabs && eqAll s.rows t.rows
theorem a1_any {p q:Nat->Prop} {a a':Option Addr} {c c':Nat} {x y:Ix} {w:World} (hx:SlV intR p w (.slice a x.cols.length c) x.cols) (hy:SlV intR q w (.slice a' y.cols.length c') y.cols) :
 Calls Tryz.prog 71 #[.agg #[.string x.name,.slice a x.cols.length c,.int .i64 x.root],.agg #[.string y.name,.slice a' y.cols.length c',.int .i64 y.root]] w fun e w'=>e=.returned (.bool (eqX x y))/\Below w.heap.size w w':=by
 obtain ⟨xn,xc,xr⟩:=x
 obtain ⟨yn,yc,yr⟩:=y
 simp only at hx hy ⊢
 obtain ⟨W1,hW1⟩:∃ W1,w.alloc (.cells #[.string xn,.slice a xc.length c,.int .i64 xr] 114)=W1:=⟨_,rfl⟩
 obtain ⟨W2,hW2⟩:∃ W2,W1.alloc (.cells #[.string yn,.slice a' yc.length c',.int .i64 yr] 114)=W2:=⟨_,rfl⟩
 have hb1:Below w.heap.size w W1:=by rw [<- hW1];exact (b0R).alloc (jR _) _
 have h1s:W1.heap.size=w.heap.size+1:=by rw [<- hW1];exact Array.size_push _
 have hb2:Below w.heap.size w W2:=by rw [<- hW2];exact hb1.alloc (by omega) _
 have hp:W1.heap[w.heap.size]? = some (.cells #[.string xn,.slice a xc.length c,.int .i64 xr] 114 (0,0)):=by rw [<- hW1];exact heap_alloc_new _ _
 have hb12:Below W1.heap.size W1 W2:=by rw [<- hW2];exact (b0R).alloc (jR _) _
 have hp2:=(hb12.block _ (jB hp)).trans hp
 have hq2:W2.heap[w.heap.size+1]? = some (.cells #[.string yn,.slice a' yc.length c',.int .i64 yr] 114 (0,0)):=by rw [<- hW2,<- h1s];exact heap_alloc_new _ _
 have x0:=jC hp2 0
 have x1:=jC hp2 1
 have x2:=jC hp2 2
 have y0:=jC hq2 0
 have y1:=jC hq2 1
 have y2:=jC hq2 2
 simp only [gT,gZ,gS] at x0 x1 x2 y0 y1 y2
 have con:=eqints_any (hx.below hb2) (hy.below hb2)
 have HF:=hid (show eqX ⟨xn,xc,xr⟩ ⟨yn,yc,yr⟩=((xn.toList == yn.toList) && eqInts xc yc) from rfl)
 generalize eqInts xc yc=f at con HF
 have B2:=hid hb2
 clear hx hy hb1 hb2 hb12 hp hp2 hq2
 rcases (show (xn.toList == yn.toList)=true \/ (xn.toList == yn.toList)=false by cases (xn.toList == yn.toList) <;> simp) with h1|h1
 · have HE:=hid (show eqX ⟨xn,xc,xr⟩ ⟨yn,yc,yr⟩=f by rw [HF.out,h1];rfl)
   go_enter Tryz.func71,Tryz.ntmps71
   go_upto_region 1 with (fail)
   clear hW1 hW2 h1s
   go_wp2_with fail
   refine con.mono ?_
   rintro e w2 ⟨rfl,b2⟩
   have B3:=hid (B2.out.trans (b2.mono B2.out.size))
   clear b2 con
   go_wp2_with fail
   go_ret
   exact ⟨by rw [HE.out];rfl,B3.out⟩
 · have HE:=hid (show eqX ⟨xn,xc,xr⟩ ⟨yn,yc,yr⟩=false by rw [HF.out,h1];rfl)
   clear con
   go_enter Tryz.func71,Tryz.ntmps71
   go_upto_region 1 with (fail)
   clear hW1 hW2 h1s
   go_wp2_with fail
   go_ret
   exact ⟨by rw [HE.out];rfl,B2.out⟩
theorem ixs_at {p:Nat->Prop} {w:World} {a:Option Addr} {c:Nat} {L:List Ix} (h:SlV ixR p w (.slice a L.length c) L):∃ q:Nat->Option Addr × Nat,
 (0<L.length->∃ b off,a=some ⟨b,off,none⟩/\b<w.heap.size/\∀ t,t<L.length->w.cell? ⟨b,off+t * 3,none⟩=some (.string (ixAt L t).name)/\w.cell? ⟨b,off+t * 3+1,none⟩=some (.slice (q t).1 (ixAt L t).cols.length (q t).2)/\w.cell? ⟨b,off+t * 3+2,none⟩=some (.int .i64 (ixAt L t).root)) /\
 ∀ t,t<L.length->SlV intR p w (.slice (q t).1 (ixAt L t).cols.length (q t).2) (ixAt L t).cols:=by
 obtain ⟨_,_,_,hrow⟩:=h.row
 have hx:∀ t,∃ q:Option Addr × Nat,∀ (ht:t<L.length),(∀ b off,a=some ⟨b,off,none⟩->w.cell? ⟨b,off+t * 3+1,none⟩=some (.slice q.1 L[t].cols.length q.2))/\SlV intR p w (.slice q.1 L[t].cols.length q.2) L[t].cols:=by
  intro t
  by_cases ht:t<L.length
  · obtain ⟨b,off,rfl,_⟩:=hrow.addr (by intro e;rw [e] at ht;cases ht)
    obtain ⟨ia,ic,_,h1,_,h2⟩:=hrow.ix t ht
    refine ⟨(ia,ic),fun _=>⟨fun b' off' e=>?_,h2⟩⟩
    simp only [Option.some.injEq,Addr.mk.injEq] at e
    obtain ⟨rfl,rfl,_⟩:=e
    exact h1
  · exact ⟨(none,0),fun h=>absurd h ht⟩
 obtain ⟨q,hq⟩:=Classical.axiomOfChoice hx
 refine ⟨q,fun h0=>?_,fun t ht=>by rw [ixAt_eq ht];exact (hq t ht).2⟩
 obtain ⟨b,off,rfl,_,hbl⟩:=hrow.addr (by intro e;rw [e] at h0;cases h0)
 refine ⟨b,off,rfl,hbl,fun t ht=>?_⟩
 obtain ⟨ia,ic,g0,g1,g2,_⟩:=hrow.ix t ht
 rw [ixAt_eq ht]
 exact ⟨g0,(hq t ht).1 b off rfl,g2⟩
theorem eqidx_any {p q:Nat->Prop} {a a':Option Addr} {c c':Nat} {x y:List Ix} {w:World} (hx:SlV ixR p w (.slice a x.length c) x) (hy:SlV ixR q w (.slice a' y.length c') y) :
 Calls Tryz.prog 75 #[.slice a x.length c,.slice a' y.length c',.func (.func 71) #[] #[]] w fun e w'=>e=.returned (.bool (eqIdx x y))/\Below w.heap.size w w':=by
 obtain ⟨f,f1,f2⟩:=ixs_at hx
 obtain ⟨g,g1,g2⟩:=ixs_at hy
 refine eqf_ix (x0:=fun t=>(ixAt x t).name) (x1a:=fun t=>(f t).1) (x1n:=fun t=>(ixAt x t).cols.length) (x1c:=fun t=>(f t).2) (x2:=fun t=>(ixAt x t).root) (y0:=fun t=>(ixAt y t).name) (y1a:=fun t=>(g t).1) (y1n:=fun t=>(ixAt y t).cols.length) (y1c:=fun t=>(g t).2) (y2:=fun t=>(ixAt y t).root) (cb:=#[]) (fun t=>eqX (ixAt x t) (ixAt y t)) (enters_of Tryz.func71 (by kernel_rfl) rfl) hx.row.2.2.1 hy.row.2.2.1 f1 g1 (fun e t ht w1 b1=>?_)
 exact a1_any ((f2 t ht).below b1) ((g2 t (by omega)).below b1)
theorem a2_any {p q:Nat->Prop} {a1 a2 a1' a2':Option Addr} {c1 c2 c1' c2' g:Nat} {x y:Tab} {w:World} (hx1:SlV colR p w (.slice a1 x.cols.length c1) x.cols) (hx2:SlV ixR p w (.slice a2 x.idx.length c2) x.idx) (hy1:SlV colR q w (.slice a1' y.cols.length c1') y.cols) (hy2:SlV ixR q w (.slice a2' y.idx.length c2') y.idx)
 (hg:w.heap[g]? = some (.cells #[.func (.func 71) #[] #[]] 115 (0,0))) :
 Calls Tryz.prog 73 #[.agg #[.int .i64 x.id,.string x.name,.slice a1 x.cols.length c1,.slice a2 x.idx.length c2],.agg #[.int .i64 y.id,.string y.name,.slice a1' y.cols.length c1',.slice a2' y.idx.length c2'],.pointer (some ⟨g,0,none⟩)] w fun e w'=>e=.returned (.bool (eqT x y))/\Below w.heap.size w w':=by
 obtain ⟨xi,xn,xc,xx⟩:=x
 obtain ⟨yi,yn,yc,yx⟩:=y
 simp only at hx1 hx2 hy1 hy2 ⊢
 obtain ⟨W1,hW1⟩:∃ W1,w.alloc (.cells #[.int .i64 xi,.string xn,.slice a1 xc.length c1,.slice a2 xx.length c2] 75)=W1:=⟨_,rfl⟩
 obtain ⟨W2,hW2⟩:∃ W2,W1.alloc (.cells #[.int .i64 yi,.string yn,.slice a1' yc.length c1',.slice a2' yx.length c2'] 75)=W2:=⟨_,rfl⟩
 have hb1:Below w.heap.size w W1:=by rw [<- hW1];exact (b0R).alloc (jR _) _
 have h1s:W1.heap.size=w.heap.size+1:=by rw [<- hW1];exact Array.size_push _
 have hb2:Below w.heap.size w W2:=by rw [<- hW2];exact hb1.alloc (by omega) _
 have hp:W1.heap[w.heap.size]? = some (.cells #[.int .i64 xi,.string xn,.slice a1 xc.length c1,.slice a2 xx.length c2] 75 (0,0)):=by rw [<- hW1];exact heap_alloc_new _ _
 have hb12:Below W1.heap.size W1 W2:=by rw [<- hW2];exact (b0R).alloc (jR _) _
 have hp2:=(hb12.block _ (jB hp)).trans hp
 have hq2:W2.heap[w.heap.size+1]? = some (.cells #[.int .i64 yi,.string yn,.slice a1' yc.length c1',.slice a2' yx.length c2'] 75 (0,0)):=by rw [<- hW2,<- h1s];exact heap_alloc_new _ _
 have X2:=hid hp2
 have Y2:=hid hq2
 have GG:=hid ((hb2.block _ (jB hg)).trans hg)
 have x0:=jC hp2 0
 have x1:=jC hp2 1
 have x2:=jC hp2 2
 have x3:=jC hp2 3
 have y0:=jC hq2 0
 have y1:=jC hq2 1
 have y2:=jC hq2 2
 have y3:=jC hq2 3
 simp only [gT,gZ,gS] at x0 x1 x2 x3 y0 y1 y2 y3
 have con:=eqcols_any (hx1.below hb2) (hy1.below hb2)
 have HF:=hid (show eqT ⟨xi,xn,xc,xx⟩ ⟨yi,yn,yc,yx⟩=((xi == yi) && ((xn.toList == yn.toList) && (eqCols xc yc && eqIdx xx yx))) from rfl)
 generalize eqCols xc yc=f at con HF
 have B2:=hid hb2
 have HX2:=hid (hx2.below hb2)
 have HY2:=hid (hy2.below hb2)
 clear hx1 hx2 hy1 hy2 hb1 hb2 hb12 hp hp2 hq2 hg
 rcases (show (xi == yi)=false \/ ((xi == yi)=true/\(xn.toList == yn.toList)=false) \/ ((xi == yi)=true/\(xn.toList == yn.toList)=true) by cases (xi == yi) <;> cases (xn.toList == yn.toList) <;> simp) with h1|⟨h1,h2⟩|⟨h1,h2⟩
 · have HE:=hid (show eqT ⟨xi,xn,xc,xx⟩ ⟨yi,yn,yc,yx⟩=false by rw [HF.out,h1];rfl)
   clear con
   go_enter Tryz.func73,Tryz.ntmps73
   go_upto_region 1 with (fail)
   clear hW1 hW2 h1s
   go_wp2_with fail
   go_ret
   exact ⟨by rw [HE.out];rfl,B2.out⟩
 · have HE:=hid (show eqT ⟨xi,xn,xc,xx⟩ ⟨yi,yn,yc,yx⟩=false by rw [HF.out,h1,h2];rfl)
   clear con
   go_enter Tryz.func73,Tryz.ntmps73
   go_upto_region 1 with (fail)
   clear hW1 hW2 h1s
   go_wp2_with fail
   go_ret
   exact ⟨by rw [HE.out];rfl,B2.out⟩
 · go_enter Tryz.func73,Tryz.ntmps73
   go_upto_region 1 with (fail)
   clear hW1 hW2 h1s
   go_wp2_with fail
   refine con.mono ?_
   rintro e w2 ⟨rfl,b2⟩
   have B3:=hid (B2.out.trans (b2.mono B2.out.size))
   have X3:=cy b2 X2
   have Y3:=cy b2 Y2
   have G3:=cy b2 GG
   clear con
   have con:=eqidx_any (HX2.out.below b2) (HY2.out.below b2)
   have HF2:=hid (show eqT ⟨xi,xn,xc,xx⟩ ⟨yi,yn,yc,yx⟩=(f && eqIdx xx yx) by rw [HF.out,h1,h2];rfl)
   generalize eqIdx xx yx=f2 at con HF2
   clear b2 x0 x1 x2 x3 y0 y1 y2 y3 HF
   have x3:=jC X3.out 3
   have y3:=jC Y3.out 3
   have z0:=jC G3.out 0
   simp only [gT,gZ,gS] at x3 y3 z0
   cases f
   · have HE:=hid (show eqT ⟨xi,xn,xc,xx⟩ ⟨yi,yn,yc,yx⟩=false by rw [HF2.out];rfl)
     clear con
     go_wp2_with fail
     go_ret
     exact ⟨by rw [HE.out];rfl,B3.out⟩
   · have HE:=hid (show eqT ⟨xi,xn,xc,xx⟩ ⟨yi,yn,yc,yx⟩=f2 by rw [HF2.out];rfl)
     go_wp2_with fail
     refine con.mono ?_
     rintro e w3 ⟨rfl,b3⟩
     have B4:=hid (B3.out.trans (b3.mono B3.out.size))
     clear b3 con x3 y3 z0
     go_wp2_with fail
     go_ret
     exact ⟨by rw [HE.out];rfl,B4.out⟩
theorem tabs_at {p:Nat->Prop} {w:World} {a:Option Addr} {c:Nat} {L:List Tab} (h:SlV tabR p w (.slice a L.length c) L):∃ q:Nat->(Option Addr × Nat) × (Option Addr × Nat),
 (0<L.length->∃ b off,a=some ⟨b,off,none⟩/\b<w.heap.size/\∀ t,t<L.length->w.cell? ⟨b,off+t * 4,none⟩=some (.int .i64 (tabAtN L t).id)/\w.cell? ⟨b,off+t * 4+1,none⟩=some (.string (tabAtN L t).name)/\w.cell? ⟨b,off+t * 4+2,none⟩=some (.slice (q t).1.1 (tabAtN L t).cols.length (q t).1.2)/\w.cell? ⟨b,off+t * 4+3,none⟩=some (.slice (q t).2.1 (tabAtN L t).idx.length (q t).2.2)) /\
 ∀ t,t<L.length->SlV colR p w (.slice (q t).1.1 (tabAtN L t).cols.length (q t).1.2) (tabAtN L t).cols/\SlV ixR p w (.slice (q t).2.1 (tabAtN L t).idx.length (q t).2.2) (tabAtN L t).idx:=by
 obtain ⟨_,_,_,hrow⟩:=h.row
 have hx:∀ t,∃ q:(Option Addr × Nat) × (Option Addr × Nat),∀ (ht:t<L.length),(∀ b off,a=some ⟨b,off,none⟩->w.cell? ⟨b,off+t * 4+2,none⟩=some (.slice q.1.1 L[t].cols.length q.1.2)/\w.cell? ⟨b,off+t * 4+3,none⟩=some (.slice q.2.1 L[t].idx.length q.2.2))/\SlV colR p w (.slice q.1.1 L[t].cols.length q.1.2) L[t].cols/\SlV ixR p w (.slice q.2.1 L[t].idx.length q.2.2) L[t].idx:=by
  intro t
  by_cases ht:t<L.length
  · obtain ⟨b,off,rfl,_⟩:=hrow.addr (by intro e;rw [e] at ht;cases ht)
    obtain ⟨ac,cc,ai,ci,_,_,h2,h3,hv⟩:=hrow.tab t ht
    obtain ⟨_,_,_,_,e,s1,s2⟩:=hv
    cases e
    refine ⟨((ac,cc),(ai,ci)),fun _=>⟨fun b' off' e=>?_,s1,s2⟩⟩
    simp only [Option.some.injEq,Addr.mk.injEq] at e
    obtain ⟨rfl,rfl,_⟩:=e
    exact ⟨h2,h3⟩
  · exact ⟨((none,0),(none,0)),fun h=>absurd h ht⟩
 obtain ⟨q,hq⟩:=Classical.axiomOfChoice hx
 refine ⟨q,fun h0=>?_,fun t ht=>by rw [tabAtN_eq ht];exact (hq t ht).2⟩
 obtain ⟨b,off,rfl,_,hbl⟩:=hrow.addr (by intro e;rw [e] at h0;cases h0)
 refine ⟨b,off,rfl,hbl,fun t ht=>?_⟩
 obtain ⟨_,_,_,_,g0,g1,_,_,_⟩:=hrow.tab t ht
 rw [tabAtN_eq ht]
 exact ⟨g0,g1,((hq t ht).1 b off rfl).1,((hq t ht).1 b off rfl).2⟩
theorem eqtabs_any {p q:Nat->Prop} {a a':Option Addr} {c c' g:Nat} {x y:List Tab} {w:World} (hx:SlV tabR p w (.slice a x.length c) x) (hy:SlV tabR q w (.slice a' y.length c') y) (hg:w.heap[g]? = some (.cells #[.func (.func 71) #[] #[]] 115 (0,0))) :
 Calls Tryz.prog 77 #[.slice a x.length c,.slice a' y.length c',.func (.func 73) #[] #[.pointer (some ⟨g,0,none⟩)]] w fun e w'=>e=.returned (.bool (eqTabs x y))/\Below w.heap.size w w':=by
 obtain ⟨f,f1,f2⟩:=tabs_at hx
 obtain ⟨h,h1,h2⟩:=tabs_at hy
 refine eqf_tab (x0:=fun t=>(tabAtN x t).id) (x1:=fun t=>(tabAtN x t).name) (x2a:=fun t=>(f t).1.1) (x2n:=fun t=>(tabAtN x t).cols.length) (x2c:=fun t=>(f t).1.2) (x3a:=fun t=>(f t).2.1) (x3n:=fun t=>(tabAtN x t).idx.length) (x3c:=fun t=>(f t).2.2)
  (y0:=fun t=>(tabAtN y t).id) (y1:=fun t=>(tabAtN y t).name) (y2a:=fun t=>(h t).1.1) (y2n:=fun t=>(tabAtN y t).cols.length) (y2c:=fun t=>(h t).1.2) (y3a:=fun t=>(h t).2.1) (y3n:=fun t=>(tabAtN y t).idx.length) (y3c:=fun t=>(h t).2.2)
  (cb:=#[.pointer (some ⟨g,0,none⟩)]) (fun t=>eqT (tabAtN x t) (tabAtN y t)) (enters_of Tryz.func73 (by kernel_rfl) rfl) hx.row.2.2.1 hy.row.2.2.1 f1 h1 (fun e t ht w1 b1=>?_)
 have ht':t<y.length:=by omega
 exact a2_any ((f2 t ht).1.below b1) ((f2 t ht).2.below b1) ((h2 t ht').1.below b1) ((h2 t ht').2.below b1) ((b1.block _ (jB hg)).trans hg)
theorem stab_by {L M:List (List Val)} (h:Stab (fun A B=>cmpBy A B []) L M):M=sortBy cmpR L:=stab_eq (f:=fun A B=>cmpBy A B []) (tot_cmpBy []) h
theorem a3_any {p q:Nat->Prop} {a a':Option Addr} {c c':Nat} {x y:List (List Val)} {w:World} (hx:SlV rowR p w (.slice a x.length c) x) (hy:SlV rowR q w (.slice a' y.length c') y) (hxl:x.length<=1000000) (hyl:y.length<=1000000) (hxs:∀ r ∈ x,r.length<=1000000) (hys:∀ r ∈ y,r.length<=1000000) (hK:KindsAt w) :
 Calls Tryz.prog 76 #[.slice a x.length c,.slice a' y.length c'] w fun e w'=>e=.returned (.bool (eqRs x y))/\Below w.heap.size w w':=by
 have HY:=hid hy
 have HK:=hid hK
 have HYL:=hid (show _/\_ from ⟨hyl,hys⟩)
 have con:=sorted_any (p:=p) (r:=fun _=>True) (ay:=none) (cy:=0) (N:=[]) hx nil_sl hxl hxs hK
 clear hx hy hK hxl hyl hxs hys
 go_enter Tryz.func76,Tryz.ntmps76
 go_wp2_with fail
 refine con.mono ?_
 rintro e w2 ⟨m1,d1,M1,rfl,b2,hm1,s1,t1⟩
 have B2:=hid b2
 have S1:=hid (show SlV rowR _ w2 (.slice m1 x.length d1) (sortBy cmpR x) by rw [<- stab_by t1];exact s1)
 have con:=sorted_any (r:=fun _=>True) (ay:=none) (cy:=0) (N:=[]) (HY.out.below b2) nil_sl HYL.out.1 HYL.out.2 (HK.out.below b2)
 clear b2 s1 t1 hm1
 go_wp2_with fail
 refine con.mono ?_
 rintro e w3 ⟨m2,d2,M2,rfl,b3,hm2,s2,t2⟩
 have B3:=hid (B2.out.trans (b3.mono B2.out.size))
 have s1:=S1.out.below b3
 rw [stab_by t2] at s2
 have lx:(sortBy cmpR x).length=x.length:=List.length_mergeSort _
 have ly:(sortBy cmpR y).length=y.length:=List.length_mergeSort _
 rw [<- lx] at s1
 rw [<- ly] at s2
 have con:=sameRows_any s1 s2 (HK.out.below B3.out)
 rw [lx,ly] at con
 have HE:=hid (show eqRs x y=sameRows (sortBy cmpR x) (sortBy cmpR y) from rfl)
 generalize sameRows _ _=f at con HE
 clear b3 s1 s2 t2 hm2 lx ly S1
 go_wp2_with fail
 refine con.mono ?_
 rintro e w4 ⟨rfl,b4⟩
 have B4:=hid (B3.out.trans (b4.mono B3.out.size))
 clear b4 con
 go_wp2_with fail
 go_ret
 exact ⟨by rw [HE.out];rfl,B4.out⟩
theorem rss_at {p:Nat->Prop} {w:World} {a:Option Addr} {c:Nat} {L:List (List (List Val))} (h:SlV rowsR p w (.slice a L.length c) L):∃ q:Nat->Option Addr × Nat,
 (0<L.length->∃ b off,a=some ⟨b,off,none⟩/\b<w.heap.size/\∀ t,t<L.length->w.cell? ⟨b,off+t,none⟩=some (.slice (q t).1 (rsAt L t).length (q t).2)) /\
 ∀ t,t<L.length->SlV rowR p w (.slice (q t).1 (rsAt L t).length (q t).2) (rsAt L t):=by
 obtain ⟨_,_,_,hrow⟩:=h.row
 have hx:∀ t,∃ q:Option Addr × Nat,∀ (ht:t<L.length),(∀ b off,a=some ⟨b,off,none⟩->w.cell? ⟨b,off+t,none⟩=some (.slice q.1 L[t].length q.2))/\SlV rowR p w (.slice q.1 L[t].length q.2) L[t]:=by
  intro t
  by_cases ht:t<L.length
  · obtain ⟨b,off,rfl,_⟩:=hrow.addr (by intro e;rw [e] at ht;cases ht)
    obtain ⟨ia,ic,h1,h2⟩:=hrow.lst t ht
    refine ⟨(ia,ic),fun _=>⟨fun b' off' e=>?_,h2⟩⟩
    simp only [Option.some.injEq,Addr.mk.injEq] at e
    obtain ⟨rfl,rfl,_⟩:=e
    exact h1
  · exact ⟨(none,0),fun h=>absurd h ht⟩
 obtain ⟨q,hq⟩:=Classical.axiomOfChoice hx
 refine ⟨q,fun h0=>?_,fun t ht=>by rw [rsAt_eq ht];exact (hq t ht).2⟩
 obtain ⟨b,off,rfl,_,hbl⟩:=hrow.addr (by intro e;rw [e] at h0;cases h0)
 refine ⟨b,off,rfl,hbl,fun t ht=>?_⟩
 rw [rsAt_eq ht]
 exact (hq t ht).1 b off rfl
theorem eqall_any {p q:Nat->Prop} {a a':Option Addr} {c c':Nat} {x y:List (List (List Val))} {w:World} (hx:SlV rowsR p w (.slice a x.length c) x) (hy:SlV rowsR q w (.slice a' y.length c') y) (sx:∀ L ∈ x,L.length<=1000000/\∀ r ∈ L,r.length<=1000000) (sy:∀ L ∈ y,L.length<=1000000/\∀ r ∈ L,r.length<=1000000) (hK:KindsAt w) :
 Calls Tryz.prog 78 #[.slice a x.length c,.slice a' y.length c',.func (.func 76) #[] #[]] w fun e w'=>e=.returned (.bool (eqAll x y))/\Below w.heap.size w w':=by
 obtain ⟨f,f1,f2⟩:=rss_at hx
 obtain ⟨h,h1,h2⟩:=rss_at hy
 refine eqf_rows (x0:=fun t=>.slice (f t).1 (rsAt x t).length (f t).2) (y0:=fun t=>.slice (h t).1 (rsAt y t).length (h t).2) (cb:=#[]) (fun t=>eqRs (rsAt x t) (rsAt y t)) (enters_of Tryz.func76 (by kernel_rfl) rfl) hx.row.2.2.1 hy.row.2.2.1 f1 h1 (fun e t ht w1 b1=>?_)
 have ht':t<y.length:=by omega
 have k1:=sx (rsAt x t) (by rw [rsAt_eq ht];exact List.getElem_mem ht)
 have k2:=sy (rsAt y t) (by rw [rsAt_eq ht'];exact List.getElem_mem ht')
 exact a3_any ((f2 t ht).below b1) ((h2 t ht').below b1) k1.1 k2.1 k1.2 k2.2 (hK.below b1)
theorem alike_any {p q:Nat->Prop} {s t:StV} {sv tv:Value} {w:World} (hs:StAt p w sv s) (ht:StAt q w tv t) (ss:∀ L ∈ s.rows,L.length<=1000000/\∀ r ∈ L,r.length<=1000000) (st:∀ L ∈ t.rows,L.length<=1000000/\∀ r ∈ L,r.length<=1000000) (hK:KindsAt w) :
 Calls Tryz.prog 32 #[sv,tv] w fun e w'=>e=.returned (.bool (alikeV s t))/\Below w.heap.size w w':=by
 obtain ⟨a1,c1,a2,c2,rfl,hs1,hs2⟩:=hs
 obtain ⟨b1,d1,b2,d2,rfl,ht1,ht2⟩:=ht
 obtain ⟨W1,hW1⟩:∃ W1,w.alloc (.cells #[.slice a1 s.tabs.length c1,.slice a2 s.rows.length c2] 27)=W1:=⟨_,rfl⟩
 obtain ⟨W2,hW2⟩:∃ W2,W1.alloc (.cells #[.slice b1 t.tabs.length d1,.slice b2 t.rows.length d2] 27)=W2:=⟨_,rfl⟩
 have hb1:Below w.heap.size w W1:=by rw [<- hW1];exact (b0R).alloc (jR _) _
 have h1s:W1.heap.size=w.heap.size+1:=by rw [<- hW1];exact Array.size_push _
 have hb2:Below w.heap.size w W2:=by rw [<- hW2];exact hb1.alloc (by omega) _
 have hp:W1.heap[w.heap.size]? = some (.cells #[.slice a1 s.tabs.length c1,.slice a2 s.rows.length c2] 27 (0,0)):=by rw [<- hW1];exact heap_alloc_new _ _
 have hb12:Below W1.heap.size W1 W2:=by rw [<- hW2];exact (b0R).alloc (jR _) _
 have hp2:=(hb12.block _ (jB hp)).trans hp
 have hq2:W2.heap[w.heap.size+1]? = some (.cells #[.slice b1 t.tabs.length d1,.slice b2 t.rows.length d2] 27 (0,0)):=by rw [<- hW2,<- h1s];exact heap_alloc_new _ _
 have X2:=hid hp2
 have Y2:=hid hq2
 have B2:=hid hb2
 have HS:=hid (show _/\_ from ⟨hs1.below hb2,hs2.below hb2⟩)
 have HT:=hid (show _/\_ from ⟨ht1.below hb2,ht2.below hb2⟩)
 have HK:=hid (hK.below hb2)
 have HZ:=hid (show _/\_ from ⟨ss,st⟩)
 have HF:=hid (show alikeV s t=(eqTabs s.tabs t.tabs && eqAll s.rows t.rows) from rfl)
 clear hs1 hs2 ht1 ht2 hK ss st hb1 hb2 hb12 hp hp2 hq2
 go_enter Tryz.func32,Tryz.ntmps32
 go_upto_region 1 with (fail)
 clear hW1 hW2 h1s
 go_upto_region 2 with (fail)
 generalize hX:World.alloc _ _=X
 have bx:Below W2.heap.size W2 X:=by rw [<- hX];exact (b0R).alloc (jR _) _
 have hg:X.heap[W2.heap.size]? = some (.cells #[.func (.func 71) #[] #[]] 115 (0,0)):=by rw [<- hX];exact heap_alloc_new _ _
 have con:=eqtabs_any (HS.out.1.below bx) (HT.out.1.below bx) hg
 have X3:=cy bx X2
 have Y3:=cy bx Y2
 have BX:=hid (B2.out.trans (bx.mono B2.out.size))
 have HS3:=hid (HS.out.2.below bx)
 have HT3:=hid (HT.out.2.below bx)
 have HK3:=hid (HK.out.below bx)
 generalize eqTabs s.tabs t.tabs=f at con HF
 clear hX bx hg
 have x0:=jC X3.out 0
 have y0:=jC Y3.out 0
 simp only [gT,gZ,gS] at x0 y0
 go_wp2_with fail
 refine con.mono ?_
 rintro e w3 ⟨rfl,b3⟩
 have B3:=hid (BX.out.trans (b3.mono BX.out.size))
 clear con
 have con:=eqall_any (HS3.out.below b3) (HT3.out.below b3) HZ.out.1 HZ.out.2 (HK3.out.below b3)
 have x1:=jC ((b3.block _ (jB X3.out)).trans X3.out) 1
 have y1:=jC ((b3.block _ (jB Y3.out)).trans Y3.out) 1
 simp only [gT,gZ,gS] at x1 y1
 generalize eqAll s.rows t.rows=f2 at con HF
 clear b3 x0 y0
 cases f
 · have HE:=hid (show alikeV s t=false by rw [HF.out];rfl)
   clear con
   go_wp2_with fail
   go_ret
   exact ⟨by rw [HE.out];rfl,B3.out⟩
 · have HE:=hid (show alikeV s t=f2 by rw [HF.out];rfl)
   go_wp2_with fail
   refine con.mono ?_
   rintro e w4 ⟨rfl,b4⟩
   have B4:=hid (B3.out.trans (b4.mono B3.out.size))
   clear b4 con x1 y1
   go_wp2_with fail
   go_ret
   exact ⟨by rw [HE.out];rfl,B4.out⟩
end
section
open Go Go.RowKit
theorem sameR_refl (x:List Val):sameR x x=true:=by
 unfold sameR
 rw [decide_eq_true rfl,Bool.true_and]
 refine allN_hit fun t _=>?_
 unfold sameV
 rw [decide_eq_true rfl,decide_eq_true (tot_cmpV.refl _)]
 rfl
theorem sameRows_refl (x:List (List Val)):sameRows x x=true:=by
 unfold sameRows
 rw [decide_eq_true rfl,Bool.true_and]
 exact allN_hit fun t _=>sameR_refl _
theorem eqCols_refl (x:List (ByteArray × Int)):eqCols x x=true:=by
 unfold eqCols
 rw [decide_eq_true rfl,Bool.true_and]
 exact allN_hit fun t _=>by unfold eqC;simp
theorem eqInts_refl (x:List Int):eqInts x x=true:=by
 unfold eqInts
 rw [decide_eq_true rfl,Bool.true_and]
 exact allN_hit fun t _=>by unfold eqI;simp
theorem eqIdx_refl (x:List Ix):eqIdx x x=true:=by
 unfold eqIdx
 rw [decide_eq_true rfl,Bool.true_and]
 exact allN_hit fun t _=>by unfold eqX;rw [eqInts_refl];simp
theorem eqTabs_refl (x:List Tab):eqTabs x x=true:=by
 unfold eqTabs
 rw [decide_eq_true rfl,Bool.true_and]
 exact allN_hit fun t _=>by unfold eqT;rw [eqCols_refl,eqIdx_refl];simp
theorem eqAll_refl (x:List (List (List Val))):eqAll x x=true:=by
 unfold eqAll
 rw [decide_eq_true rfl,Bool.true_and]
 exact allN_hit fun t _=>sameRows_refl _
theorem alike_refl (s:StV):alikeV s s=true:=by
 unfold alikeV
 rw [eqTabs_refl,eqAll_refl]
 rfl
end
section
open Go Go.RowKit Go.Sort
def srtL (N:List Int) (L:List (List Val)):List (List Val):=sortBy (fun A B=>cmpBy A B N) L
theorem sort_pair {α:Type} {f:α->α->Int} (hf:Tot f) (L:List α):(sortBy f L).Pairwise fun a b=>f a b<=0:=by
 have h:=List.pairwise_mergeSort (le:=fun a b=>decide (f a b<=0)) (fun a b c h1 h2=>by
  have h1':f a b<=0:=by simpa using h1
  have h2':f b c<=0:=by simpa using h2
  have:=hf.trans a b c h1' h2'
  simpa using this) (fun a b=>by
  have:=hf.anti a b
  have:f a b<=0 \/ f b a<=0:=by omega
  simpa using this) L
 exact h.imp fun h=>by simpa using h
theorem sort_mem {α:Type} {f:α->α->Int} {L:List α} {x:α}:x ∈ sortBy f L ↔ x ∈ L:=(List.mergeSort_perm _ _).mem_iff
theorem sameA_refl (x:AnsV):sameA x x=true:=by
 unfold sameA
 rw [decide_eq_true rfl,decide_eq_true rfl,sameRows_refl]
 rfl
theorem row_takeI {α:Type} {R:Rep α} {p:Nat->Prop} {w:World} {a:Option Addr} {X:List α} (m:Nat) (h:RowAt R p w a X):RowAt R p w a (X.take m):=by
 rcases h with rfl|⟨b,off,ha,hp,hb,hc⟩
 · exact Or.inl (by simp)
 · refine Or.inr ⟨b,off,ha,hp,hb.sub (jR _) (Nat.add_le_add_left (Nat.mul_le_mul_right _ (by rw [List.length_take];exact Nat.min_le_right _ _)) _),fun t ht=>?_⟩
   have ht':t<X.length:=by rw [List.length_take] at ht;omega
   obtain ⟨cs,h1,h2⟩:=hc t ht'
   exact ⟨cs,h1,by rw [List.getElem_take];exact h2⟩
end
end Go.Proofs.YtgemihkcihigpaaGreatDoor
