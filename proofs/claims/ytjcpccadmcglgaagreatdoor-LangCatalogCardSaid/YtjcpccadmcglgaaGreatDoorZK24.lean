/- (*Catalog).index. -/
import Derived.Test.YtjcpccadmcglgaaGreatDoorZK23
import Derived.Laws.EntriesVeiled
set_option linter.unusedVariables false
set_option linter.unusedSimpArgs false
set_option maxRecDepth 100000
set_option maxHeartbeats 64000000
namespace Go.Proofs.YtjcpccadmcglgaaGreatDoor
open Go.Lib (hid)
section
open Go.RowKit
theorem ix1_any {q:Nat} {xn nm:ByteArray} {a:Option Addr} {n c:Nat} {r:Int} {w:World} (hq:w.cell? ⟨q,2,none⟩=some (.string nm)) :
 Calls Tryz.prog 103 #[.agg #[.string xn,.slice a n c,.int .i64 r],.pointer (some ⟨q,0,none⟩)] w fun e w'=>e=.returned (.bool (sEq xn nm))/\Below w.heap.size w w':=by
 have hb:Below w.heap.size w (w.alloc (.cells #[.string xn,.slice a n c,.int .i64 r] 93)):=(b0R).alloc (jR _) _
 have hlt:=World.block_lt_of_cell? w _ hq
 have hb1:=hid hb
 have q2:=(hb.cell (p:=⟨q,2,none⟩) hlt).trans hq
 clear hb
 go_enter Tryz.func103,Tryz.ntmps103
 go_wp2_with fail
 go_ret
 exact ⟨rfl,hb1.out⟩
theorem ix2_any {p:Nat->Prop} {q sm:Nat} {id:Int} {tn nm:ByteArray} {ac ai:Option Addr} {nc cc ci:Nat} {L:List Ix} {w:World} (hL:SlV ixR p w (.slice ai L.length ci) L) (hq:w.cell? ⟨q,2,none⟩=some (.string nm)) (hsm:w.cell? ⟨sm,0,none⟩=some (.func (.func 103) #[] #[.pointer (some ⟨q,0,none⟩)])) :
 Calls Tryz.prog 106 #[.agg #[.int .i64 id,.string tn,.slice ac nc cc,.slice ai L.length ci],.pointer (some ⟨sm,0,none⟩)] w fun e w'=>e=.returned (.bool (L.any fun i=>sEq i.name nm))/\Below w.heap.size w w':=by
 obtain ⟨W,hW⟩:∃ W,w.alloc (.cells #[.int .i64 id,.string tn,.slice ac nc cc,.slice ai L.length ci] 90)=W:=⟨_,rfl⟩
 have hb:Below w.heap.size w W:=by rw [<- hW];exact (b0R).alloc (jR _) _
 have hb1:=hid hb
 have hbq:W.heap[w.heap.size]? = some (.cells #[.int .i64 id,.string tn,.slice ac nc cc,.slice ai L.length ci] 90 (0,0)):=by rw [<- hW];exact heap_alloc_new _ _
 have t3:=jC hbq 3
 simp only [gT,gZ,gS] at t3
 have sm0:=(hb.cell (p:=⟨sm,0,none⟩) (World.block_lt_of_cell? w _ hsm)).trans hsm
 have q2:=(hb.cell (p:=⟨q,2,none⟩) (World.block_lt_of_cell? w _ hq)).trans hq
 have Q2:=hid q2
 have QL:=hid (World.block_lt_of_cell? W _ q2)
 have con:Calls Tryz.prog 107 #[.slice ai L.length ci,.func (.func 103) #[] #[.pointer (some ⟨q,0,none⟩)]] W fun e w'=>e=.returned (.bool (L.any fun i=>sEq i.name nm))/\Below W.heap.size W w':=by
  have HL:=hL.below hb
  obtain ⟨_,_,hl,hr⟩:=HL.row
  have hx:∀ t,∃ qq:Option Addr × Nat,∀ (ht:t<L.length),(∀ b off,ai=some ⟨b,off,none⟩->W.cell? ⟨b,off+t * 3+1,none⟩=some (.slice qq.1 L[t].cols.length qq.2)):=by
   intro t
   by_cases ht:t<L.length
   · obtain ⟨b,off,rfl,_⟩:=hr.addr (by intro e;rw [e] at ht;cases ht)
     obtain ⟨ia,ic,_,h1,_,_⟩:=hr.ix t ht
     refine ⟨(ia,ic),fun _ b' off' e=>?_⟩
     simp only [Option.some.injEq,Addr.mk.injEq] at e
     obtain ⟨rfl,rfl,_⟩:=e
     exact h1
   · exact ⟨(none,0),fun h=>absurd h ht⟩
  obtain ⟨qq,hqq⟩:=Classical.axiomOfChoice hx
  rw [<- anyN_list (fun i:Ix=>sEq i.name nm) L (fun t=>sEq (ixAt L t).name nm) (fun t ht=>by rw [ixAt_eq ht])]
  refine cf_ix (x0:=fun t=>.string (ixAt L t).name) (x1:=fun t=>.slice (qq t).1 (ixAt L t).cols.length (qq t).2) (x2:=fun t=>.int .i64 (ixAt L t).root) (fun t=>sEq (ixAt L t).name nm) (enters_of Tryz.func103 (by kernel_rfl) rfl) hl (fun h0=>?_) (fun t ht w1 b1=>ix1_any ((b1.cell (p:=⟨q,2,none⟩) QL.out).trans Q2.out))
  obtain ⟨b,off,rfl,_,hbl⟩:=hr.addr (by intro e;rw [e] at h0;cases h0)
  refine ⟨b,off,rfl,hbl,fun t ht=>?_⟩
  obtain ⟨_,_,g0,_,g2,_⟩:=hr.ix t ht
  rw [ixAt_eq ht]
  exact ⟨g0,hqq t ht b off rfl,g2⟩
 have HF:=hid (show (L.any fun i=>sEq i.name nm)=L.any fun i=>sEq i.name nm from rfl)
 generalize (L.any fun i=>sEq i.name nm)=f at con HF ⊢
 clear hb hL hbq HF Q2 QL hq hsm
 go_enter Tryz.func106,Tryz.ntmps106
 go_upto_region 1 with (fail)
 clear hW
 go_wp2_with fail
 refine con.mono ?_
 rintro e w2 ⟨rfl,b2⟩
 have B2:=hid (hb1.out.trans (b2.mono hb1.out.size))
 clear con b2
 go_wp2_with fail
 go_ret
 exact ⟨rfl,B2.out⟩
theorem dup_any {p:Nat->Prop} {q sm c:Nat} {nm:ByteArray} {a:Option Addr} {C:List Tab} {w:World} (h:SlV tabR p w (.slice a C.length c) C) (hq:w.cell? ⟨q,2,none⟩=some (.string nm)) (hsm:w.cell? ⟨sm,0,none⟩=some (.func (.func 103) #[] #[.pointer (some ⟨q,0,none⟩)])) :
 Calls Tryz.prog 105 #[.slice a C.length c,.func (.func 106) #[] #[.pointer (some ⟨sm,0,none⟩)]] w fun e w'=>e=.returned (.bool (C.any fun t=>t.idx.any fun i=>sEq i.name nm))/\Below w.heap.size w w':=by
 obtain ⟨_,_,hl,hr⟩:=h.row
 have hx:∀ t,∃ qq:(Option Addr × Nat) × (Option Addr × Nat),∀ (ht:t<C.length),(∀ b off,a=some ⟨b,off,none⟩->w.cell? ⟨b,off+t * 4+2,none⟩=some (.slice qq.1.1 C[t].cols.length qq.1.2)/\w.cell? ⟨b,off+t * 4+3,none⟩=some (.slice qq.2.1 C[t].idx.length qq.2.2))/\SlV ixR p w (.slice qq.2.1 C[t].idx.length qq.2.2) C[t].idx:=by
  intro t
  by_cases ht:t<C.length
  · obtain ⟨b,off,rfl,_⟩:=hr.addr (by intro e;rw [e] at ht;cases ht)
    obtain ⟨ac,cc,ai,ci,_,_,h2,h3,hv⟩:=hr.tab t ht
    obtain ⟨_,_,_,_,e,_,s2⟩:=hv
    cases e
    refine ⟨((ac,cc),(ai,ci)),fun _=>⟨fun b' off' e=>?_,s2⟩⟩
    simp only [Option.some.injEq,Addr.mk.injEq] at e
    obtain ⟨rfl,rfl,_⟩:=e
    exact ⟨h2,h3⟩
  · exact ⟨((none,0),(none,0)),fun h=>absurd h ht⟩
 obtain ⟨qq,hqq⟩:=Classical.axiomOfChoice hx
 rw [<- anyN_list (fun t:Tab=>t.idx.any fun i=>sEq i.name nm) C (fun t=>(tabAtN C t).idx.any fun i=>sEq i.name nm) (fun t ht=>by rw [tabAtN_eq ht])]
 refine cf_tab (x0:=fun t=>.int .i64 (tabAtN C t).id) (x1:=fun t=>.string (tabAtN C t).name) (x2:=fun t=>.slice (qq t).1.1 (tabAtN C t).cols.length (qq t).1.2) (x3:=fun t=>.slice (qq t).2.1 (tabAtN C t).idx.length (qq t).2.2) (fun t=>(tabAtN C t).idx.any fun i=>sEq i.name nm) (enters_of Tryz.func106 (by kernel_rfl) rfl) hl (fun h0=>?_) (fun t ht w1 b1=>?_)
 · obtain ⟨b,off,rfl,_,hbl⟩:=hr.addr (by intro e;rw [e] at h0;cases h0)
   refine ⟨b,off,rfl,hbl,fun t ht=>?_⟩
   obtain ⟨_,_,_,_,g0,g1,_,_,_⟩:=hr.tab t ht
   rw [tabAtN_eq ht]
   exact ⟨g0,g1,(hqq t ht).1 b off rfl⟩
 · rw [tabAtN_eq ht]
   exact ix2_any ((hqq t ht).2.below b1) ((b1.cell (p:=⟨q,2,none⟩) (World.block_lt_of_cell? w _ hq)).trans hq) ((b1.cell (p:=⟨sm,0,none⟩) (World.block_lt_of_cell? w _ hsm)).trans hsm)
end
end Go.Proofs.YtjcpccadmcglgaaGreatDoor
