/- slices.Equal at the lists of a statement. -/
import Derived.Test.YtjcpccadmcglgaaGreatDoorZK30
import Derived.Laws.StructEq
set_option linter.unusedVariables false
set_option linter.unusedSimpArgs false
set_option maxRecDepth 100000
set_option maxHeartbeats 64000000
namespace Go.Proofs.YtjcpccadmcglgaaGreatDoor
open Go.Lib (hid)
section
open Go.RowKit
theorem bytes_eq {a b:ByteArray} (h:(a.toList == b.toList)=true):a=b:=by
 rw [toList_data,toList_data] at h
 apply ByteArray.ext
 apply Array.toList_inj.1
 simpa using h
theorem bytes_ne {a b:ByteArray} (h:(a.toList == b.toList)=false):a ≠ b:=fun e=>by
 subst e
 simp at h
theorem list_hit {α:Type} {x y:List α} {n:Nat} (h1:x.length=n) (h2:y.length=n) (h:∀ t,t<n->x[t]? = y[t]?):x=y:=by
 apply List.ext_getElem?
 intro t
 by_cases ht:t<n
 · exact h t ht
 · rw [List.getElem?_eq_none (by omega),List.getElem?_eq_none (by omega)]
theorem eqcol_any {p q:Nat->Prop} {va vb:Value} {x y:List (ByteArray × Int)} {w:World} (hx:SlV colR p w va x) (hy:SlV colR q w vb y) :
 Calls Tryz.prog 30 #[va,vb] w fun e w'=>e=.returned (.bool (decide (x=y)))/\Below w.heap.size w w':=by
 obtain ⟨a,c,rfl⟩:=hx.shape
 obtain ⟨a',c',rfl⟩:=hy.shape
 have HX:=hid hx
 have HY:=hid hy
 clear hx hy
 by_cases hne:x.length=y.length
 · obtain ⟨n,hn⟩:∃ n,x.length=n:=⟨_,rfl⟩
   have hm:y.length=n:=by omega
   have hnl:=HX.out.row.2.2.1
   rw [hn] at hnl
   have HN:=hid hn
   have HM:=hid hm
   rw [hn,hm]
   clear hn hm hne
   go_enter Tryz.func30,Tryz.ntmps30
   go_wp2_with fail
   go_loopw [13] (fun i wr=>∃ k:Nat,k<=n/\i=.int .i64 k/\Hid (∀ t,t<k->x[t]? = y[t]?)/\Hid (Below w.heap.size w wr)) (fun i _=>n - (intOf i).toNat)
   case atStart=>exact ⟨0,Nat.zero_le _,rfl,(fun t ht=>by omega),Below.refl _ _⟩
   case round =>
   obtain ⟨k,hk,rfl,HF,HB⟩:=hrel
   by_cases hlt:k<n
   · have hkx:k<x.length:=by rw [HN.out];exact hlt
     have hky:k<y.length:=by rw [HM.out];exact hlt
     have rx:=(HX.out.below HB.out).row.2.2.2
     have ry:=(HY.out.below HB.out).row.2.2.2
     obtain ⟨b,off,rfl,_,hbl⟩:=rx.addr (by intro e;rw [e] at hkx;cases hkx)
     obtain ⟨b',off',rfl,_,hbl'⟩:=ry.addr (by intro e;rw [e] at hky;cases hky)
     obtain ⟨c0,c1⟩:=rx.col k hkx
     obtain ⟨d0,d1⟩:=ry.col k hky
     have g1:x[k]? = some x[k]:=List.getElem?_eq_getElem hkx
     have g2:y[k]? = some y[k]:=List.getElem?_eq_getElem hky
     obtain ⟨⟨x0,x1⟩,hxe⟩:∃ z,x[k]=z:=⟨_,rfl⟩
     obtain ⟨⟨y0,y1⟩,hye⟩:∃ z,y[k]=z:=⟨_,rfl⟩
     rw [hxe] at c0 c1 g1
     rw [hye] at d0 d1 g2
     simp only at c0 d0 c1 d1
     have G1:=hid g1
     have G2:=hid g2
     clear rx ry hxe hye hkx hky g1 g2
     cases h0:(x0.toList == y0.toList) with
     | false =>
      have HR:=hid (show ¬ x[k]? = y[k]? from fun e=>bytes_ne h0 (by rw [G1.out,G2.out] at e;simp only [Option.some.injEq,Prod.mk.injEq,Val.mk.injEq,SetV.mk.injEq,Cond.mk.injEq] at e;simp only [e]))
      go_upto_region 6 with (fail)
      refine wp_region_class (Below wr.heap.size wr) (by kernel_rfl) (by kernel_rfl) (Below.drew b0R) (fun ne=>?_)
      have z0:=fun z:Wld (Below wr.heap.size wr)=>(z.good.cell (p:=⟨b,off+k * 2,none⟩) hbl).trans c0
      have e0:=fun z:Wld (Below wr.heap.size wr)=>(z.good.cell (p:=⟨b',off'+k * 2,none⟩) hbl').trans d0
      have z1:=fun z:Wld (Below wr.heap.size wr)=>(z.good.cell (p:=⟨b,off+k * 2+1,none⟩) hbl).trans c1
      have e1:=fun z:Wld (Below wr.heap.size wr)=>(z.good.cell (p:=⟨b',off'+k * 2+1,none⟩) hbl').trans d1
      repeat (go_big_quiet_step (fail))
      refine wpQuiet_nil ?_
      intro w3 b3
      have B3:=hid (HB.out.trans (b3.mono HB.out.size))
      clear b3 ne z0 e0 c0 d0 z1 e1 c1 d1
      go_wp2_with fail
      go_ret
      exact ⟨by rw [decide_eq_false (fun e=>HR.out (by rw [e]))];rfl,B3.out⟩
     | true =>
      cases h1:(x1 == y1) with
      | false =>
       have HR:=hid (show ¬ x[k]? = y[k]? from fun e=>(by simpa using h1:¬ x1=y1) (by rw [G1.out,G2.out] at e;simp only [Option.some.injEq,Prod.mk.injEq,Val.mk.injEq,SetV.mk.injEq,Cond.mk.injEq] at e;simp only [e]))
       go_upto_region 6 with (fail)
       refine wp_region_class (Below wr.heap.size wr) (by kernel_rfl) (by kernel_rfl) (Below.drew b0R) (fun ne=>?_)
       have z0:=fun z:Wld (Below wr.heap.size wr)=>(z.good.cell (p:=⟨b,off+k * 2,none⟩) hbl).trans c0
       have e0:=fun z:Wld (Below wr.heap.size wr)=>(z.good.cell (p:=⟨b',off'+k * 2,none⟩) hbl').trans d0
       have z1:=fun z:Wld (Below wr.heap.size wr)=>(z.good.cell (p:=⟨b,off+k * 2+1,none⟩) hbl).trans c1
       have e1:=fun z:Wld (Below wr.heap.size wr)=>(z.good.cell (p:=⟨b',off'+k * 2+1,none⟩) hbl').trans d1
       repeat (go_big_quiet_step (fail))
       refine wpQuiet_nil ?_
       intro w3 b3
       have B3:=hid (HB.out.trans (b3.mono HB.out.size))
       clear b3 ne z0 e0 c0 d0 z1 e1 c1 d1
       go_wp2_with fail
       go_ret
       exact ⟨by rw [decide_eq_false (fun e=>HR.out (by rw [e]))];rfl,B3.out⟩
      | true =>
       have HR:=hid (show x[k]? = y[k]? by rw [G1.out,G2.out,bytes_eq h0,(by simpa using h1:x1=y1)])
       go_upto_region 6 with (fail)
       refine wp_region_class (Below wr.heap.size wr) (by kernel_rfl) (by kernel_rfl) (Below.drew b0R) (fun ne=>?_)
       have z0:=fun z:Wld (Below wr.heap.size wr)=>(z.good.cell (p:=⟨b,off+k * 2,none⟩) hbl).trans c0
       have e0:=fun z:Wld (Below wr.heap.size wr)=>(z.good.cell (p:=⟨b',off'+k * 2,none⟩) hbl').trans d0
       have z1:=fun z:Wld (Below wr.heap.size wr)=>(z.good.cell (p:=⟨b,off+k * 2+1,none⟩) hbl).trans c1
       have e1:=fun z:Wld (Below wr.heap.size wr)=>(z.good.cell (p:=⟨b',off'+k * 2+1,none⟩) hbl').trans d1
       repeat (go_big_quiet_step (fail))
       refine wpQuiet_nil ?_
       intro w3 b3
       have B3:=hid (HB.out.trans (b3.mono HB.out.size))
       clear b3 ne z0 e0 c0 d0 z1 e1 c1 d1
       go_wp2_with fail
       go_roundw
       case rel=>exact ⟨k+1,by omega,by go_num,(fun t ht=>by
        rcases Nat.lt_or_eq_of_le (Nat.le_of_lt_succ ht) with h|rfl
        · exact HF.out t h
        · exact HR.out),B3⟩
       case measure=>simp [intOf];omega
   · obtain rfl:k=n:=by omega
     have HE:=hid (show x=y from list_hit HN.out HM.out HF.out)
     go_wp2_with fail
     go_ret
     exact ⟨by rw [decide_eq_true HE.out];rfl,HB.out⟩
 · have HE:=hid (show ¬ x=y from fun e=>hne (by rw [e]))
   go_enter Tryz.func30,Tryz.ntmps30
   go_wp2_with fail
   go_ret
   exact ⟨by rw [decide_eq_false HE.out];rfl,Below.refl _ _⟩
theorem eqval_any {p q:Nat->Prop} {va vb:Value} {x y:List (Val)} {w:World} (hx:SlV valR p w va x) (hy:SlV valR q w vb y) :
 Calls Tryz.prog 32 #[va,vb] w fun e w'=>e=.returned (.bool (decide (x=y)))/\Below w.heap.size w w':=by
 obtain ⟨a,c,rfl⟩:=hx.shape
 obtain ⟨a',c',rfl⟩:=hy.shape
 have HX:=hid hx
 have HY:=hid hy
 clear hx hy
 by_cases hne:x.length=y.length
 · obtain ⟨n,hn⟩:∃ n,x.length=n:=⟨_,rfl⟩
   have hm:y.length=n:=by omega
   have hnl:=HX.out.row.2.2.1
   rw [hn] at hnl
   have HN:=hid hn
   have HM:=hid hm
   rw [hn,hm]
   clear hn hm hne
   go_enter Tryz.func32,Tryz.ntmps32
   go_wp2_with fail
   go_loopw [13] (fun i wr=>∃ k:Nat,k<=n/\i=.int .i64 k/\Hid (∀ t,t<k->x[t]? = y[t]?)/\Hid (Below w.heap.size w wr)) (fun i _=>n - (intOf i).toNat)
   case atStart=>exact ⟨0,Nat.zero_le _,rfl,(fun t ht=>by omega),Below.refl _ _⟩
   case round =>
   obtain ⟨k,hk,rfl,HF,HB⟩:=hrel
   by_cases hlt:k<n
   · have hkx:k<x.length:=by rw [HN.out];exact hlt
     have hky:k<y.length:=by rw [HM.out];exact hlt
     have rx:=(HX.out.below HB.out).row.2.2.2
     have ry:=(HY.out.below HB.out).row.2.2.2
     obtain ⟨b,off,rfl,_,hbl⟩:=rx.addr (by intro e;rw [e] at hkx;cases hkx)
     obtain ⟨b',off',rfl,_,hbl'⟩:=ry.addr (by intro e;rw [e] at hky;cases hky)
     obtain ⟨c0,c1,c2⟩:=rx.val k hkx
     obtain ⟨d0,d1,d2⟩:=ry.val k hky
     have g1:x[k]? = some x[k]:=List.getElem?_eq_getElem hkx
     have g2:y[k]? = some y[k]:=List.getElem?_eq_getElem hky
     obtain ⟨⟨x0,x1,x2⟩,hxe⟩:∃ z,x[k]=z:=⟨_,rfl⟩
     obtain ⟨⟨y0,y1,y2⟩,hye⟩:∃ z,y[k]=z:=⟨_,rfl⟩
     rw [hxe] at c0 c1 c2 g1
     rw [hye] at d0 d1 d2 g2
     simp only at c0 d0 c1 d1 c2 d2
     have G1:=hid g1
     have G2:=hid g2
     clear rx ry hxe hye hkx hky g1 g2
     cases h0:(x0 == y0) with
     | false =>
      have HR:=hid (show ¬ x[k]? = y[k]? from fun e=>(by simpa using h0:¬ x0=y0) (by rw [G1.out,G2.out] at e;simp only [Option.some.injEq,Prod.mk.injEq,Val.mk.injEq,SetV.mk.injEq,Cond.mk.injEq] at e;simp only [e]))
      go_upto_region 6 with (fail)
      refine wp_region_class (Below wr.heap.size wr) (by kernel_rfl) (by kernel_rfl) (Below.drew b0R) (fun ne=>?_)
      have z0:=fun z:Wld (Below wr.heap.size wr)=>(z.good.cell (p:=⟨b,off+k * 3,none⟩) hbl).trans c0
      have e0:=fun z:Wld (Below wr.heap.size wr)=>(z.good.cell (p:=⟨b',off'+k * 3,none⟩) hbl').trans d0
      have z1:=fun z:Wld (Below wr.heap.size wr)=>(z.good.cell (p:=⟨b,off+k * 3+1,none⟩) hbl).trans c1
      have e1:=fun z:Wld (Below wr.heap.size wr)=>(z.good.cell (p:=⟨b',off'+k * 3+1,none⟩) hbl').trans d1
      have z2:=fun z:Wld (Below wr.heap.size wr)=>(z.good.cell (p:=⟨b,off+k * 3+2,none⟩) hbl).trans c2
      have e2:=fun z:Wld (Below wr.heap.size wr)=>(z.good.cell (p:=⟨b',off'+k * 3+2,none⟩) hbl').trans d2
      repeat (go_big_quiet_step (fail))
      refine wpQuiet_nil ?_
      intro w3 b3
      have B3:=hid (HB.out.trans (b3.mono HB.out.size))
      clear b3 ne z0 e0 c0 d0 z1 e1 c1 d1 z2 e2 c2 d2
      go_wp2_with fail
      go_ret
      exact ⟨by rw [decide_eq_false (fun e=>HR.out (by rw [e]))];rfl,B3.out⟩
     | true =>
      cases h1:(x1 == y1) with
      | false =>
       have HR:=hid (show ¬ x[k]? = y[k]? from fun e=>(by simpa using h1:¬ x1=y1) (by rw [G1.out,G2.out] at e;simp only [Option.some.injEq,Prod.mk.injEq,Val.mk.injEq,SetV.mk.injEq,Cond.mk.injEq] at e;simp only [e]))
       go_upto_region 6 with (fail)
       refine wp_region_class (Below wr.heap.size wr) (by kernel_rfl) (by kernel_rfl) (Below.drew b0R) (fun ne=>?_)
       have z0:=fun z:Wld (Below wr.heap.size wr)=>(z.good.cell (p:=⟨b,off+k * 3,none⟩) hbl).trans c0
       have e0:=fun z:Wld (Below wr.heap.size wr)=>(z.good.cell (p:=⟨b',off'+k * 3,none⟩) hbl').trans d0
       have z1:=fun z:Wld (Below wr.heap.size wr)=>(z.good.cell (p:=⟨b,off+k * 3+1,none⟩) hbl).trans c1
       have e1:=fun z:Wld (Below wr.heap.size wr)=>(z.good.cell (p:=⟨b',off'+k * 3+1,none⟩) hbl').trans d1
       have z2:=fun z:Wld (Below wr.heap.size wr)=>(z.good.cell (p:=⟨b,off+k * 3+2,none⟩) hbl).trans c2
       have e2:=fun z:Wld (Below wr.heap.size wr)=>(z.good.cell (p:=⟨b',off'+k * 3+2,none⟩) hbl').trans d2
       repeat (go_big_quiet_step (fail))
       refine wpQuiet_nil ?_
       intro w3 b3
       have B3:=hid (HB.out.trans (b3.mono HB.out.size))
       clear b3 ne z0 e0 c0 d0 z1 e1 c1 d1 z2 e2 c2 d2
       go_wp2_with fail
       go_ret
       exact ⟨by rw [decide_eq_false (fun e=>HR.out (by rw [e]))];rfl,B3.out⟩
      | true =>
       cases h2:(x2.toList == y2.toList) with
       | false =>
        have HR:=hid (show ¬ x[k]? = y[k]? from fun e=>bytes_ne h2 (by rw [G1.out,G2.out] at e;simp only [Option.some.injEq,Prod.mk.injEq,Val.mk.injEq,SetV.mk.injEq,Cond.mk.injEq] at e;simp only [e]))
        go_upto_region 6 with (fail)
        refine wp_region_class (Below wr.heap.size wr) (by kernel_rfl) (by kernel_rfl) (Below.drew b0R) (fun ne=>?_)
        have z0:=fun z:Wld (Below wr.heap.size wr)=>(z.good.cell (p:=⟨b,off+k * 3,none⟩) hbl).trans c0
        have e0:=fun z:Wld (Below wr.heap.size wr)=>(z.good.cell (p:=⟨b',off'+k * 3,none⟩) hbl').trans d0
        have z1:=fun z:Wld (Below wr.heap.size wr)=>(z.good.cell (p:=⟨b,off+k * 3+1,none⟩) hbl).trans c1
        have e1:=fun z:Wld (Below wr.heap.size wr)=>(z.good.cell (p:=⟨b',off'+k * 3+1,none⟩) hbl').trans d1
        have z2:=fun z:Wld (Below wr.heap.size wr)=>(z.good.cell (p:=⟨b,off+k * 3+2,none⟩) hbl).trans c2
        have e2:=fun z:Wld (Below wr.heap.size wr)=>(z.good.cell (p:=⟨b',off'+k * 3+2,none⟩) hbl').trans d2
        repeat (go_big_quiet_step (fail))
        refine wpQuiet_nil ?_
        intro w3 b3
        have B3:=hid (HB.out.trans (b3.mono HB.out.size))
        clear b3 ne z0 e0 c0 d0 z1 e1 c1 d1 z2 e2 c2 d2
        go_wp2_with fail
        go_ret
        exact ⟨by rw [decide_eq_false (fun e=>HR.out (by rw [e]))];rfl,B3.out⟩
       | true =>
        have HR:=hid (show x[k]? = y[k]? by rw [G1.out,G2.out,(by simpa using h0:x0=y0),(by simpa using h1:x1=y1),bytes_eq h2])
        go_upto_region 6 with (fail)
        refine wp_region_class (Below wr.heap.size wr) (by kernel_rfl) (by kernel_rfl) (Below.drew b0R) (fun ne=>?_)
        have z0:=fun z:Wld (Below wr.heap.size wr)=>(z.good.cell (p:=⟨b,off+k * 3,none⟩) hbl).trans c0
        have e0:=fun z:Wld (Below wr.heap.size wr)=>(z.good.cell (p:=⟨b',off'+k * 3,none⟩) hbl').trans d0
        have z1:=fun z:Wld (Below wr.heap.size wr)=>(z.good.cell (p:=⟨b,off+k * 3+1,none⟩) hbl).trans c1
        have e1:=fun z:Wld (Below wr.heap.size wr)=>(z.good.cell (p:=⟨b',off'+k * 3+1,none⟩) hbl').trans d1
        have z2:=fun z:Wld (Below wr.heap.size wr)=>(z.good.cell (p:=⟨b,off+k * 3+2,none⟩) hbl).trans c2
        have e2:=fun z:Wld (Below wr.heap.size wr)=>(z.good.cell (p:=⟨b',off'+k * 3+2,none⟩) hbl').trans d2
        repeat (go_big_quiet_step (fail))
        refine wpQuiet_nil ?_
        intro w3 b3
        have B3:=hid (HB.out.trans (b3.mono HB.out.size))
        clear b3 ne z0 e0 c0 d0 z1 e1 c1 d1 z2 e2 c2 d2
        go_wp2_with fail
        go_roundw
        case rel=>exact ⟨k+1,by omega,by go_num,(fun t ht=>by
         rcases Nat.lt_or_eq_of_le (Nat.le_of_lt_succ ht) with h|rfl
         · exact HF.out t h
         · exact HR.out),B3⟩
        case measure=>simp [intOf];omega
   · obtain rfl:k=n:=by omega
     have HE:=hid (show x=y from list_hit HN.out HM.out HF.out)
     go_wp2_with fail
     go_ret
     exact ⟨by rw [decide_eq_true HE.out];rfl,HB.out⟩
 · have HE:=hid (show ¬ x=y from fun e=>hne (by rw [e]))
   go_enter Tryz.func32,Tryz.ntmps32
   go_wp2_with fail
   go_ret
   exact ⟨by rw [decide_eq_false HE.out];rfl,Below.refl _ _⟩
theorem eqset_any {p q:Nat->Prop} {va vb:Value} {x y:List (SetV)} {w:World} (hx:SlV setR p w va x) (hy:SlV setR q w vb y) :
 Calls Tryz.prog 33 #[va,vb] w fun e w'=>e=.returned (.bool (decide (x=y)))/\Below w.heap.size w w':=by
 obtain ⟨a,c,rfl⟩:=hx.shape
 obtain ⟨a',c',rfl⟩:=hy.shape
 have HX:=hid hx
 have HY:=hid hy
 clear hx hy
 by_cases hne:x.length=y.length
 · obtain ⟨n,hn⟩:∃ n,x.length=n:=⟨_,rfl⟩
   have hm:y.length=n:=by omega
   have hnl:=HX.out.row.2.2.1
   rw [hn] at hnl
   have HN:=hid hn
   have HM:=hid hm
   rw [hn,hm]
   clear hn hm hne
   go_enter Tryz.func33,Tryz.ntmps33
   go_wp2_with fail
   go_loopw [13] (fun i wr=>∃ k:Nat,k<=n/\i=.int .i64 k/\Hid (∀ t,t<k->x[t]? = y[t]?)/\Hid (Below w.heap.size w wr)) (fun i _=>n - (intOf i).toNat)
   case atStart=>exact ⟨0,Nat.zero_le _,rfl,(fun t ht=>by omega),Below.refl _ _⟩
   case round =>
   obtain ⟨k,hk,rfl,HF,HB⟩:=hrel
   by_cases hlt:k<n
   · have hkx:k<x.length:=by rw [HN.out];exact hlt
     have hky:k<y.length:=by rw [HM.out];exact hlt
     have rx:=(HX.out.below HB.out).row.2.2.2
     have ry:=(HY.out.below HB.out).row.2.2.2
     obtain ⟨b,off,rfl,_,hbl⟩:=rx.addr (by intro e;rw [e] at hkx;cases hkx)
     obtain ⟨b',off',rfl,_,hbl'⟩:=ry.addr (by intro e;rw [e] at hky;cases hky)
     obtain ⟨c0,c1,c2,c3,c4⟩:=rx.set k hkx
     obtain ⟨d0,d1,d2,d3,d4⟩:=ry.set k hky
     have g1:x[k]? = some x[k]:=List.getElem?_eq_getElem hkx
     have g2:y[k]? = some y[k]:=List.getElem?_eq_getElem hky
     obtain ⟨⟨x0,x1,⟨x2,x3,x4⟩⟩,hxe⟩:∃ z,x[k]=z:=⟨_,rfl⟩
     obtain ⟨⟨y0,y1,⟨y2,y3,y4⟩⟩,hye⟩:∃ z,y[k]=z:=⟨_,rfl⟩
     rw [hxe] at c0 c1 c2 c3 c4 g1
     rw [hye] at d0 d1 d2 d3 d4 g2
     simp only at c0 d0 c1 d1 c2 d2 c3 d3 c4 d4
     have G1:=hid g1
     have G2:=hid g2
     clear rx ry hxe hye hkx hky g1 g2
     cases h0:(x0.toList == y0.toList) with
     | false =>
      have HR:=hid (show ¬ x[k]? = y[k]? from fun e=>bytes_ne h0 (by rw [G1.out,G2.out] at e;simp only [Option.some.injEq,Prod.mk.injEq,Val.mk.injEq,SetV.mk.injEq,Cond.mk.injEq] at e;simp only [e]))
      go_upto_region 6 with (fail)
      refine wp_region_class (Below wr.heap.size wr) (by kernel_rfl) (by kernel_rfl) (Below.drew b0R) (fun ne=>?_)
      have z0:=fun z:Wld (Below wr.heap.size wr)=>(z.good.cell (p:=⟨b,off+k * 5,none⟩) hbl).trans c0
      have e0:=fun z:Wld (Below wr.heap.size wr)=>(z.good.cell (p:=⟨b',off'+k * 5,none⟩) hbl').trans d0
      have z1:=fun z:Wld (Below wr.heap.size wr)=>(z.good.cell (p:=⟨b,off+k * 5+1,none⟩) hbl).trans c1
      have e1:=fun z:Wld (Below wr.heap.size wr)=>(z.good.cell (p:=⟨b',off'+k * 5+1,none⟩) hbl').trans d1
      have z2:=fun z:Wld (Below wr.heap.size wr)=>(z.good.cell (p:=⟨b,off+k * 5+2,none⟩) hbl).trans c2
      have e2:=fun z:Wld (Below wr.heap.size wr)=>(z.good.cell (p:=⟨b',off'+k * 5+2,none⟩) hbl').trans d2
      have z3:=fun z:Wld (Below wr.heap.size wr)=>(z.good.cell (p:=⟨b,off+k * 5+3,none⟩) hbl).trans c3
      have e3:=fun z:Wld (Below wr.heap.size wr)=>(z.good.cell (p:=⟨b',off'+k * 5+3,none⟩) hbl').trans d3
      have z4:=fun z:Wld (Below wr.heap.size wr)=>(z.good.cell (p:=⟨b,off+k * 5+4,none⟩) hbl).trans c4
      have e4:=fun z:Wld (Below wr.heap.size wr)=>(z.good.cell (p:=⟨b',off'+k * 5+4,none⟩) hbl').trans d4
      repeat (go_big_quiet_step (fail))
      refine wpQuiet_nil ?_
      intro w3 b3
      have B3:=hid (HB.out.trans (b3.mono HB.out.size))
      clear b3 ne z0 e0 c0 d0 z1 e1 c1 d1 z2 e2 c2 d2 z3 e3 c3 d3 z4 e4 c4 d4
      go_wp2_with fail
      go_ret
      exact ⟨by rw [decide_eq_false (fun e=>HR.out (by rw [e]))];rfl,B3.out⟩
     | true =>
      cases h1:(x1.toList == y1.toList) with
      | false =>
       have HR:=hid (show ¬ x[k]? = y[k]? from fun e=>bytes_ne h1 (by rw [G1.out,G2.out] at e;simp only [Option.some.injEq,Prod.mk.injEq,Val.mk.injEq,SetV.mk.injEq,Cond.mk.injEq] at e;simp only [e]))
       go_upto_region 6 with (fail)
       refine wp_region_class (Below wr.heap.size wr) (by kernel_rfl) (by kernel_rfl) (Below.drew b0R) (fun ne=>?_)
       have z0:=fun z:Wld (Below wr.heap.size wr)=>(z.good.cell (p:=⟨b,off+k * 5,none⟩) hbl).trans c0
       have e0:=fun z:Wld (Below wr.heap.size wr)=>(z.good.cell (p:=⟨b',off'+k * 5,none⟩) hbl').trans d0
       have z1:=fun z:Wld (Below wr.heap.size wr)=>(z.good.cell (p:=⟨b,off+k * 5+1,none⟩) hbl).trans c1
       have e1:=fun z:Wld (Below wr.heap.size wr)=>(z.good.cell (p:=⟨b',off'+k * 5+1,none⟩) hbl').trans d1
       have z2:=fun z:Wld (Below wr.heap.size wr)=>(z.good.cell (p:=⟨b,off+k * 5+2,none⟩) hbl).trans c2
       have e2:=fun z:Wld (Below wr.heap.size wr)=>(z.good.cell (p:=⟨b',off'+k * 5+2,none⟩) hbl').trans d2
       have z3:=fun z:Wld (Below wr.heap.size wr)=>(z.good.cell (p:=⟨b,off+k * 5+3,none⟩) hbl).trans c3
       have e3:=fun z:Wld (Below wr.heap.size wr)=>(z.good.cell (p:=⟨b',off'+k * 5+3,none⟩) hbl').trans d3
       have z4:=fun z:Wld (Below wr.heap.size wr)=>(z.good.cell (p:=⟨b,off+k * 5+4,none⟩) hbl).trans c4
       have e4:=fun z:Wld (Below wr.heap.size wr)=>(z.good.cell (p:=⟨b',off'+k * 5+4,none⟩) hbl').trans d4
       repeat (go_big_quiet_step (fail))
       refine wpQuiet_nil ?_
       intro w3 b3
       have B3:=hid (HB.out.trans (b3.mono HB.out.size))
       clear b3 ne z0 e0 c0 d0 z1 e1 c1 d1 z2 e2 c2 d2 z3 e3 c3 d3 z4 e4 c4 d4
       go_wp2_with fail
       go_ret
       exact ⟨by rw [decide_eq_false (fun e=>HR.out (by rw [e]))];rfl,B3.out⟩
      | true =>
       cases h2:(x2 == y2) with
       | false =>
        have HR:=hid (show ¬ x[k]? = y[k]? from fun e=>(by simpa using h2:¬ x2=y2) (by rw [G1.out,G2.out] at e;simp only [Option.some.injEq,Prod.mk.injEq,Val.mk.injEq,SetV.mk.injEq,Cond.mk.injEq] at e;simp only [e]))
        go_upto_region 6 with (fail)
        refine wp_region_class (Below wr.heap.size wr) (by kernel_rfl) (by kernel_rfl) (Below.drew b0R) (fun ne=>?_)
        have z0:=fun z:Wld (Below wr.heap.size wr)=>(z.good.cell (p:=⟨b,off+k * 5,none⟩) hbl).trans c0
        have e0:=fun z:Wld (Below wr.heap.size wr)=>(z.good.cell (p:=⟨b',off'+k * 5,none⟩) hbl').trans d0
        have z1:=fun z:Wld (Below wr.heap.size wr)=>(z.good.cell (p:=⟨b,off+k * 5+1,none⟩) hbl).trans c1
        have e1:=fun z:Wld (Below wr.heap.size wr)=>(z.good.cell (p:=⟨b',off'+k * 5+1,none⟩) hbl').trans d1
        have z2:=fun z:Wld (Below wr.heap.size wr)=>(z.good.cell (p:=⟨b,off+k * 5+2,none⟩) hbl).trans c2
        have e2:=fun z:Wld (Below wr.heap.size wr)=>(z.good.cell (p:=⟨b',off'+k * 5+2,none⟩) hbl').trans d2
        have z3:=fun z:Wld (Below wr.heap.size wr)=>(z.good.cell (p:=⟨b,off+k * 5+3,none⟩) hbl).trans c3
        have e3:=fun z:Wld (Below wr.heap.size wr)=>(z.good.cell (p:=⟨b',off'+k * 5+3,none⟩) hbl').trans d3
        have z4:=fun z:Wld (Below wr.heap.size wr)=>(z.good.cell (p:=⟨b,off+k * 5+4,none⟩) hbl).trans c4
        have e4:=fun z:Wld (Below wr.heap.size wr)=>(z.good.cell (p:=⟨b',off'+k * 5+4,none⟩) hbl').trans d4
        repeat (go_big_quiet_step (fail))
        refine wpQuiet_nil ?_
        intro w3 b3
        have B3:=hid (HB.out.trans (b3.mono HB.out.size))
        clear b3 ne z0 e0 c0 d0 z1 e1 c1 d1 z2 e2 c2 d2 z3 e3 c3 d3 z4 e4 c4 d4
        go_wp2_with fail
        go_ret
        exact ⟨by rw [decide_eq_false (fun e=>HR.out (by rw [e]))];rfl,B3.out⟩
       | true =>
        cases h3:(x3 == y3) with
        | false =>
         have HR:=hid (show ¬ x[k]? = y[k]? from fun e=>(by simpa using h3:¬ x3=y3) (by rw [G1.out,G2.out] at e;simp only [Option.some.injEq,Prod.mk.injEq,Val.mk.injEq,SetV.mk.injEq,Cond.mk.injEq] at e;simp only [e]))
         go_upto_region 6 with (fail)
         refine wp_region_class (Below wr.heap.size wr) (by kernel_rfl) (by kernel_rfl) (Below.drew b0R) (fun ne=>?_)
         have z0:=fun z:Wld (Below wr.heap.size wr)=>(z.good.cell (p:=⟨b,off+k * 5,none⟩) hbl).trans c0
         have e0:=fun z:Wld (Below wr.heap.size wr)=>(z.good.cell (p:=⟨b',off'+k * 5,none⟩) hbl').trans d0
         have z1:=fun z:Wld (Below wr.heap.size wr)=>(z.good.cell (p:=⟨b,off+k * 5+1,none⟩) hbl).trans c1
         have e1:=fun z:Wld (Below wr.heap.size wr)=>(z.good.cell (p:=⟨b',off'+k * 5+1,none⟩) hbl').trans d1
         have z2:=fun z:Wld (Below wr.heap.size wr)=>(z.good.cell (p:=⟨b,off+k * 5+2,none⟩) hbl).trans c2
         have e2:=fun z:Wld (Below wr.heap.size wr)=>(z.good.cell (p:=⟨b',off'+k * 5+2,none⟩) hbl').trans d2
         have z3:=fun z:Wld (Below wr.heap.size wr)=>(z.good.cell (p:=⟨b,off+k * 5+3,none⟩) hbl).trans c3
         have e3:=fun z:Wld (Below wr.heap.size wr)=>(z.good.cell (p:=⟨b',off'+k * 5+3,none⟩) hbl').trans d3
         have z4:=fun z:Wld (Below wr.heap.size wr)=>(z.good.cell (p:=⟨b,off+k * 5+4,none⟩) hbl).trans c4
         have e4:=fun z:Wld (Below wr.heap.size wr)=>(z.good.cell (p:=⟨b',off'+k * 5+4,none⟩) hbl').trans d4
         repeat (go_big_quiet_step (fail))
         refine wpQuiet_nil ?_
         intro w3 b3
         have B3:=hid (HB.out.trans (b3.mono HB.out.size))
         clear b3 ne z0 e0 c0 d0 z1 e1 c1 d1 z2 e2 c2 d2 z3 e3 c3 d3 z4 e4 c4 d4
         go_wp2_with fail
         go_ret
         exact ⟨by rw [decide_eq_false (fun e=>HR.out (by rw [e]))];rfl,B3.out⟩
        | true =>
         cases h4:(x4.toList == y4.toList) with
         | false =>
          have HR:=hid (show ¬ x[k]? = y[k]? from fun e=>bytes_ne h4 (by rw [G1.out,G2.out] at e;simp only [Option.some.injEq,Prod.mk.injEq,Val.mk.injEq,SetV.mk.injEq,Cond.mk.injEq] at e;simp only [e]))
          go_upto_region 6 with (fail)
          refine wp_region_class (Below wr.heap.size wr) (by kernel_rfl) (by kernel_rfl) (Below.drew b0R) (fun ne=>?_)
          have z0:=fun z:Wld (Below wr.heap.size wr)=>(z.good.cell (p:=⟨b,off+k * 5,none⟩) hbl).trans c0
          have e0:=fun z:Wld (Below wr.heap.size wr)=>(z.good.cell (p:=⟨b',off'+k * 5,none⟩) hbl').trans d0
          have z1:=fun z:Wld (Below wr.heap.size wr)=>(z.good.cell (p:=⟨b,off+k * 5+1,none⟩) hbl).trans c1
          have e1:=fun z:Wld (Below wr.heap.size wr)=>(z.good.cell (p:=⟨b',off'+k * 5+1,none⟩) hbl').trans d1
          have z2:=fun z:Wld (Below wr.heap.size wr)=>(z.good.cell (p:=⟨b,off+k * 5+2,none⟩) hbl).trans c2
          have e2:=fun z:Wld (Below wr.heap.size wr)=>(z.good.cell (p:=⟨b',off'+k * 5+2,none⟩) hbl').trans d2
          have z3:=fun z:Wld (Below wr.heap.size wr)=>(z.good.cell (p:=⟨b,off+k * 5+3,none⟩) hbl).trans c3
          have e3:=fun z:Wld (Below wr.heap.size wr)=>(z.good.cell (p:=⟨b',off'+k * 5+3,none⟩) hbl').trans d3
          have z4:=fun z:Wld (Below wr.heap.size wr)=>(z.good.cell (p:=⟨b,off+k * 5+4,none⟩) hbl).trans c4
          have e4:=fun z:Wld (Below wr.heap.size wr)=>(z.good.cell (p:=⟨b',off'+k * 5+4,none⟩) hbl').trans d4
          repeat (go_big_quiet_step (fail))
          refine wpQuiet_nil ?_
          intro w3 b3
          have B3:=hid (HB.out.trans (b3.mono HB.out.size))
          clear b3 ne z0 e0 c0 d0 z1 e1 c1 d1 z2 e2 c2 d2 z3 e3 c3 d3 z4 e4 c4 d4
          go_wp2_with fail
          go_ret
          exact ⟨by rw [decide_eq_false (fun e=>HR.out (by rw [e]))];rfl,B3.out⟩
         | true =>
          have HR:=hid (show x[k]? = y[k]? by rw [G1.out,G2.out,bytes_eq h0,bytes_eq h1,(by simpa using h2:x2=y2),(by simpa using h3:x3=y3),bytes_eq h4])
          go_upto_region 6 with (fail)
          refine wp_region_class (Below wr.heap.size wr) (by kernel_rfl) (by kernel_rfl) (Below.drew b0R) (fun ne=>?_)
          have z0:=fun z:Wld (Below wr.heap.size wr)=>(z.good.cell (p:=⟨b,off+k * 5,none⟩) hbl).trans c0
          have e0:=fun z:Wld (Below wr.heap.size wr)=>(z.good.cell (p:=⟨b',off'+k * 5,none⟩) hbl').trans d0
          have z1:=fun z:Wld (Below wr.heap.size wr)=>(z.good.cell (p:=⟨b,off+k * 5+1,none⟩) hbl).trans c1
          have e1:=fun z:Wld (Below wr.heap.size wr)=>(z.good.cell (p:=⟨b',off'+k * 5+1,none⟩) hbl').trans d1
          have z2:=fun z:Wld (Below wr.heap.size wr)=>(z.good.cell (p:=⟨b,off+k * 5+2,none⟩) hbl).trans c2
          have e2:=fun z:Wld (Below wr.heap.size wr)=>(z.good.cell (p:=⟨b',off'+k * 5+2,none⟩) hbl').trans d2
          have z3:=fun z:Wld (Below wr.heap.size wr)=>(z.good.cell (p:=⟨b,off+k * 5+3,none⟩) hbl).trans c3
          have e3:=fun z:Wld (Below wr.heap.size wr)=>(z.good.cell (p:=⟨b',off'+k * 5+3,none⟩) hbl').trans d3
          have z4:=fun z:Wld (Below wr.heap.size wr)=>(z.good.cell (p:=⟨b,off+k * 5+4,none⟩) hbl).trans c4
          have e4:=fun z:Wld (Below wr.heap.size wr)=>(z.good.cell (p:=⟨b',off'+k * 5+4,none⟩) hbl').trans d4
          repeat (go_big_quiet_step (fail))
          refine wpQuiet_nil ?_
          intro w3 b3
          have B3:=hid (HB.out.trans (b3.mono HB.out.size))
          clear b3 ne z0 e0 c0 d0 z1 e1 c1 d1 z2 e2 c2 d2 z3 e3 c3 d3 z4 e4 c4 d4
          go_wp2_with fail
          go_roundw
          case rel=>exact ⟨k+1,by omega,by go_num,(fun t ht=>by
           rcases Nat.lt_or_eq_of_le (Nat.le_of_lt_succ ht) with h|rfl
           · exact HF.out t h
           · exact HR.out),B3⟩
          case measure=>simp [intOf];omega
   · obtain rfl:k=n:=by omega
     have HE:=hid (show x=y from list_hit HN.out HM.out HF.out)
     go_wp2_with fail
     go_ret
     exact ⟨by rw [decide_eq_true HE.out];rfl,HB.out⟩
 · have HE:=hid (show ¬ x=y from fun e=>hne (by rw [e]))
   go_enter Tryz.func33,Tryz.ntmps33
   go_wp2_with fail
   go_ret
   exact ⟨by rw [decide_eq_false HE.out];rfl,Below.refl _ _⟩
theorem eqcond_any {p q:Nat->Prop} {va vb:Value} {x y:List (Cond)} {w:World} (hx:SlV condR p w va x) (hy:SlV condR q w vb y) :
 Calls Tryz.prog 34 #[va,vb] w fun e w'=>e=.returned (.bool (decide (x=y)))/\Below w.heap.size w w':=by
 obtain ⟨a,c,rfl⟩:=hx.shape
 obtain ⟨a',c',rfl⟩:=hy.shape
 have HX:=hid hx
 have HY:=hid hy
 clear hx hy
 by_cases hne:x.length=y.length
 · obtain ⟨n,hn⟩:∃ n,x.length=n:=⟨_,rfl⟩
   have hm:y.length=n:=by omega
   have hnl:=HX.out.row.2.2.1
   rw [hn] at hnl
   have HN:=hid hn
   have HM:=hid hm
   rw [hn,hm]
   clear hn hm hne
   go_enter Tryz.func34,Tryz.ntmps34
   go_wp2_with fail
   go_loopw [13] (fun i wr=>∃ k:Nat,k<=n/\i=.int .i64 k/\Hid (∀ t,t<k->x[t]? = y[t]?)/\Hid (Below w.heap.size w wr)) (fun i _=>n - (intOf i).toNat)
   case atStart=>exact ⟨0,Nat.zero_le _,rfl,(fun t ht=>by omega),Below.refl _ _⟩
   case round =>
   obtain ⟨k,hk,rfl,HF,HB⟩:=hrel
   by_cases hlt:k<n
   · have hkx:k<x.length:=by rw [HN.out];exact hlt
     have hky:k<y.length:=by rw [HM.out];exact hlt
     have rx:=(HX.out.below HB.out).row.2.2.2
     have ry:=(HY.out.below HB.out).row.2.2.2
     obtain ⟨b,off,rfl,_,hbl⟩:=rx.addr (by intro e;rw [e] at hkx;cases hkx)
     obtain ⟨b',off',rfl,_,hbl'⟩:=ry.addr (by intro e;rw [e] at hky;cases hky)
     obtain ⟨c0,c1,c2,c3,c4⟩:=rx.cond k hkx
     obtain ⟨d0,d1,d2,d3,d4⟩:=ry.cond k hky
     have g1:x[k]? = some x[k]:=List.getElem?_eq_getElem hkx
     have g2:y[k]? = some y[k]:=List.getElem?_eq_getElem hky
     obtain ⟨⟨x0,x1,⟨x2,x3,x4⟩⟩,hxe⟩:∃ z,x[k]=z:=⟨_,rfl⟩
     obtain ⟨⟨y0,y1,⟨y2,y3,y4⟩⟩,hye⟩:∃ z,y[k]=z:=⟨_,rfl⟩
     rw [hxe] at c0 c1 c2 c3 c4 g1
     rw [hye] at d0 d1 d2 d3 d4 g2
     simp only at c0 d0 c1 d1 c2 d2 c3 d3 c4 d4
     have G1:=hid g1
     have G2:=hid g2
     clear rx ry hxe hye hkx hky g1 g2
     cases h0:(x0.toList == y0.toList) with
     | false =>
      have HR:=hid (show ¬ x[k]? = y[k]? from fun e=>bytes_ne h0 (by rw [G1.out,G2.out] at e;simp only [Option.some.injEq,Prod.mk.injEq,Val.mk.injEq,SetV.mk.injEq,Cond.mk.injEq] at e;simp only [e]))
      go_upto_region 6 with (fail)
      refine wp_region_class (Below wr.heap.size wr) (by kernel_rfl) (by kernel_rfl) (Below.drew b0R) (fun ne=>?_)
      have z0:=fun z:Wld (Below wr.heap.size wr)=>(z.good.cell (p:=⟨b,off+k * 5,none⟩) hbl).trans c0
      have e0:=fun z:Wld (Below wr.heap.size wr)=>(z.good.cell (p:=⟨b',off'+k * 5,none⟩) hbl').trans d0
      have z1:=fun z:Wld (Below wr.heap.size wr)=>(z.good.cell (p:=⟨b,off+k * 5+1,none⟩) hbl).trans c1
      have e1:=fun z:Wld (Below wr.heap.size wr)=>(z.good.cell (p:=⟨b',off'+k * 5+1,none⟩) hbl').trans d1
      have z2:=fun z:Wld (Below wr.heap.size wr)=>(z.good.cell (p:=⟨b,off+k * 5+2,none⟩) hbl).trans c2
      have e2:=fun z:Wld (Below wr.heap.size wr)=>(z.good.cell (p:=⟨b',off'+k * 5+2,none⟩) hbl').trans d2
      have z3:=fun z:Wld (Below wr.heap.size wr)=>(z.good.cell (p:=⟨b,off+k * 5+3,none⟩) hbl).trans c3
      have e3:=fun z:Wld (Below wr.heap.size wr)=>(z.good.cell (p:=⟨b',off'+k * 5+3,none⟩) hbl').trans d3
      have z4:=fun z:Wld (Below wr.heap.size wr)=>(z.good.cell (p:=⟨b,off+k * 5+4,none⟩) hbl).trans c4
      have e4:=fun z:Wld (Below wr.heap.size wr)=>(z.good.cell (p:=⟨b',off'+k * 5+4,none⟩) hbl').trans d4
      repeat (go_big_quiet_step (fail))
      refine wpQuiet_nil ?_
      intro w3 b3
      have B3:=hid (HB.out.trans (b3.mono HB.out.size))
      clear b3 ne z0 e0 c0 d0 z1 e1 c1 d1 z2 e2 c2 d2 z3 e3 c3 d3 z4 e4 c4 d4
      go_wp2_with fail
      go_ret
      exact ⟨by rw [decide_eq_false (fun e=>HR.out (by rw [e]))];rfl,B3.out⟩
     | true =>
      cases h1:(x1 == y1) with
      | false =>
       have HR:=hid (show ¬ x[k]? = y[k]? from fun e=>(by simpa using h1:¬ x1=y1) (by rw [G1.out,G2.out] at e;simp only [Option.some.injEq,Prod.mk.injEq,Val.mk.injEq,SetV.mk.injEq,Cond.mk.injEq] at e;simp only [e]))
       go_upto_region 6 with (fail)
       refine wp_region_class (Below wr.heap.size wr) (by kernel_rfl) (by kernel_rfl) (Below.drew b0R) (fun ne=>?_)
       have z0:=fun z:Wld (Below wr.heap.size wr)=>(z.good.cell (p:=⟨b,off+k * 5,none⟩) hbl).trans c0
       have e0:=fun z:Wld (Below wr.heap.size wr)=>(z.good.cell (p:=⟨b',off'+k * 5,none⟩) hbl').trans d0
       have z1:=fun z:Wld (Below wr.heap.size wr)=>(z.good.cell (p:=⟨b,off+k * 5+1,none⟩) hbl).trans c1
       have e1:=fun z:Wld (Below wr.heap.size wr)=>(z.good.cell (p:=⟨b',off'+k * 5+1,none⟩) hbl').trans d1
       have z2:=fun z:Wld (Below wr.heap.size wr)=>(z.good.cell (p:=⟨b,off+k * 5+2,none⟩) hbl).trans c2
       have e2:=fun z:Wld (Below wr.heap.size wr)=>(z.good.cell (p:=⟨b',off'+k * 5+2,none⟩) hbl').trans d2
       have z3:=fun z:Wld (Below wr.heap.size wr)=>(z.good.cell (p:=⟨b,off+k * 5+3,none⟩) hbl).trans c3
       have e3:=fun z:Wld (Below wr.heap.size wr)=>(z.good.cell (p:=⟨b',off'+k * 5+3,none⟩) hbl').trans d3
       have z4:=fun z:Wld (Below wr.heap.size wr)=>(z.good.cell (p:=⟨b,off+k * 5+4,none⟩) hbl).trans c4
       have e4:=fun z:Wld (Below wr.heap.size wr)=>(z.good.cell (p:=⟨b',off'+k * 5+4,none⟩) hbl').trans d4
       repeat (go_big_quiet_step (fail))
       refine wpQuiet_nil ?_
       intro w3 b3
       have B3:=hid (HB.out.trans (b3.mono HB.out.size))
       clear b3 ne z0 e0 c0 d0 z1 e1 c1 d1 z2 e2 c2 d2 z3 e3 c3 d3 z4 e4 c4 d4
       go_wp2_with fail
       go_ret
       exact ⟨by rw [decide_eq_false (fun e=>HR.out (by rw [e]))];rfl,B3.out⟩
      | true =>
       cases h2:(x2 == y2) with
       | false =>
        have HR:=hid (show ¬ x[k]? = y[k]? from fun e=>(by simpa using h2:¬ x2=y2) (by rw [G1.out,G2.out] at e;simp only [Option.some.injEq,Prod.mk.injEq,Val.mk.injEq,SetV.mk.injEq,Cond.mk.injEq] at e;simp only [e]))
        go_upto_region 6 with (fail)
        refine wp_region_class (Below wr.heap.size wr) (by kernel_rfl) (by kernel_rfl) (Below.drew b0R) (fun ne=>?_)
        have z0:=fun z:Wld (Below wr.heap.size wr)=>(z.good.cell (p:=⟨b,off+k * 5,none⟩) hbl).trans c0
        have e0:=fun z:Wld (Below wr.heap.size wr)=>(z.good.cell (p:=⟨b',off'+k * 5,none⟩) hbl').trans d0
        have z1:=fun z:Wld (Below wr.heap.size wr)=>(z.good.cell (p:=⟨b,off+k * 5+1,none⟩) hbl).trans c1
        have e1:=fun z:Wld (Below wr.heap.size wr)=>(z.good.cell (p:=⟨b',off'+k * 5+1,none⟩) hbl').trans d1
        have z2:=fun z:Wld (Below wr.heap.size wr)=>(z.good.cell (p:=⟨b,off+k * 5+2,none⟩) hbl).trans c2
        have e2:=fun z:Wld (Below wr.heap.size wr)=>(z.good.cell (p:=⟨b',off'+k * 5+2,none⟩) hbl').trans d2
        have z3:=fun z:Wld (Below wr.heap.size wr)=>(z.good.cell (p:=⟨b,off+k * 5+3,none⟩) hbl).trans c3
        have e3:=fun z:Wld (Below wr.heap.size wr)=>(z.good.cell (p:=⟨b',off'+k * 5+3,none⟩) hbl').trans d3
        have z4:=fun z:Wld (Below wr.heap.size wr)=>(z.good.cell (p:=⟨b,off+k * 5+4,none⟩) hbl).trans c4
        have e4:=fun z:Wld (Below wr.heap.size wr)=>(z.good.cell (p:=⟨b',off'+k * 5+4,none⟩) hbl').trans d4
        repeat (go_big_quiet_step (fail))
        refine wpQuiet_nil ?_
        intro w3 b3
        have B3:=hid (HB.out.trans (b3.mono HB.out.size))
        clear b3 ne z0 e0 c0 d0 z1 e1 c1 d1 z2 e2 c2 d2 z3 e3 c3 d3 z4 e4 c4 d4
        go_wp2_with fail
        go_ret
        exact ⟨by rw [decide_eq_false (fun e=>HR.out (by rw [e]))];rfl,B3.out⟩
       | true =>
        cases h3:(x3 == y3) with
        | false =>
         have HR:=hid (show ¬ x[k]? = y[k]? from fun e=>(by simpa using h3:¬ x3=y3) (by rw [G1.out,G2.out] at e;simp only [Option.some.injEq,Prod.mk.injEq,Val.mk.injEq,SetV.mk.injEq,Cond.mk.injEq] at e;simp only [e]))
         go_upto_region 6 with (fail)
         refine wp_region_class (Below wr.heap.size wr) (by kernel_rfl) (by kernel_rfl) (Below.drew b0R) (fun ne=>?_)
         have z0:=fun z:Wld (Below wr.heap.size wr)=>(z.good.cell (p:=⟨b,off+k * 5,none⟩) hbl).trans c0
         have e0:=fun z:Wld (Below wr.heap.size wr)=>(z.good.cell (p:=⟨b',off'+k * 5,none⟩) hbl').trans d0
         have z1:=fun z:Wld (Below wr.heap.size wr)=>(z.good.cell (p:=⟨b,off+k * 5+1,none⟩) hbl).trans c1
         have e1:=fun z:Wld (Below wr.heap.size wr)=>(z.good.cell (p:=⟨b',off'+k * 5+1,none⟩) hbl').trans d1
         have z2:=fun z:Wld (Below wr.heap.size wr)=>(z.good.cell (p:=⟨b,off+k * 5+2,none⟩) hbl).trans c2
         have e2:=fun z:Wld (Below wr.heap.size wr)=>(z.good.cell (p:=⟨b',off'+k * 5+2,none⟩) hbl').trans d2
         have z3:=fun z:Wld (Below wr.heap.size wr)=>(z.good.cell (p:=⟨b,off+k * 5+3,none⟩) hbl).trans c3
         have e3:=fun z:Wld (Below wr.heap.size wr)=>(z.good.cell (p:=⟨b',off'+k * 5+3,none⟩) hbl').trans d3
         have z4:=fun z:Wld (Below wr.heap.size wr)=>(z.good.cell (p:=⟨b,off+k * 5+4,none⟩) hbl).trans c4
         have e4:=fun z:Wld (Below wr.heap.size wr)=>(z.good.cell (p:=⟨b',off'+k * 5+4,none⟩) hbl').trans d4
         repeat (go_big_quiet_step (fail))
         refine wpQuiet_nil ?_
         intro w3 b3
         have B3:=hid (HB.out.trans (b3.mono HB.out.size))
         clear b3 ne z0 e0 c0 d0 z1 e1 c1 d1 z2 e2 c2 d2 z3 e3 c3 d3 z4 e4 c4 d4
         go_wp2_with fail
         go_ret
         exact ⟨by rw [decide_eq_false (fun e=>HR.out (by rw [e]))];rfl,B3.out⟩
        | true =>
         cases h4:(x4.toList == y4.toList) with
         | false =>
          have HR:=hid (show ¬ x[k]? = y[k]? from fun e=>bytes_ne h4 (by rw [G1.out,G2.out] at e;simp only [Option.some.injEq,Prod.mk.injEq,Val.mk.injEq,SetV.mk.injEq,Cond.mk.injEq] at e;simp only [e]))
          go_upto_region 6 with (fail)
          refine wp_region_class (Below wr.heap.size wr) (by kernel_rfl) (by kernel_rfl) (Below.drew b0R) (fun ne=>?_)
          have z0:=fun z:Wld (Below wr.heap.size wr)=>(z.good.cell (p:=⟨b,off+k * 5,none⟩) hbl).trans c0
          have e0:=fun z:Wld (Below wr.heap.size wr)=>(z.good.cell (p:=⟨b',off'+k * 5,none⟩) hbl').trans d0
          have z1:=fun z:Wld (Below wr.heap.size wr)=>(z.good.cell (p:=⟨b,off+k * 5+1,none⟩) hbl).trans c1
          have e1:=fun z:Wld (Below wr.heap.size wr)=>(z.good.cell (p:=⟨b',off'+k * 5+1,none⟩) hbl').trans d1
          have z2:=fun z:Wld (Below wr.heap.size wr)=>(z.good.cell (p:=⟨b,off+k * 5+2,none⟩) hbl).trans c2
          have e2:=fun z:Wld (Below wr.heap.size wr)=>(z.good.cell (p:=⟨b',off'+k * 5+2,none⟩) hbl').trans d2
          have z3:=fun z:Wld (Below wr.heap.size wr)=>(z.good.cell (p:=⟨b,off+k * 5+3,none⟩) hbl).trans c3
          have e3:=fun z:Wld (Below wr.heap.size wr)=>(z.good.cell (p:=⟨b',off'+k * 5+3,none⟩) hbl').trans d3
          have z4:=fun z:Wld (Below wr.heap.size wr)=>(z.good.cell (p:=⟨b,off+k * 5+4,none⟩) hbl).trans c4
          have e4:=fun z:Wld (Below wr.heap.size wr)=>(z.good.cell (p:=⟨b',off'+k * 5+4,none⟩) hbl').trans d4
          repeat (go_big_quiet_step (fail))
          refine wpQuiet_nil ?_
          intro w3 b3
          have B3:=hid (HB.out.trans (b3.mono HB.out.size))
          clear b3 ne z0 e0 c0 d0 z1 e1 c1 d1 z2 e2 c2 d2 z3 e3 c3 d3 z4 e4 c4 d4
          go_wp2_with fail
          go_ret
          exact ⟨by rw [decide_eq_false (fun e=>HR.out (by rw [e]))];rfl,B3.out⟩
         | true =>
          have HR:=hid (show x[k]? = y[k]? by rw [G1.out,G2.out,bytes_eq h0,(by simpa using h1:x1=y1),(by simpa using h2:x2=y2),(by simpa using h3:x3=y3),bytes_eq h4])
          go_upto_region 6 with (fail)
          refine wp_region_class (Below wr.heap.size wr) (by kernel_rfl) (by kernel_rfl) (Below.drew b0R) (fun ne=>?_)
          have z0:=fun z:Wld (Below wr.heap.size wr)=>(z.good.cell (p:=⟨b,off+k * 5,none⟩) hbl).trans c0
          have e0:=fun z:Wld (Below wr.heap.size wr)=>(z.good.cell (p:=⟨b',off'+k * 5,none⟩) hbl').trans d0
          have z1:=fun z:Wld (Below wr.heap.size wr)=>(z.good.cell (p:=⟨b,off+k * 5+1,none⟩) hbl).trans c1
          have e1:=fun z:Wld (Below wr.heap.size wr)=>(z.good.cell (p:=⟨b',off'+k * 5+1,none⟩) hbl').trans d1
          have z2:=fun z:Wld (Below wr.heap.size wr)=>(z.good.cell (p:=⟨b,off+k * 5+2,none⟩) hbl).trans c2
          have e2:=fun z:Wld (Below wr.heap.size wr)=>(z.good.cell (p:=⟨b',off'+k * 5+2,none⟩) hbl').trans d2
          have z3:=fun z:Wld (Below wr.heap.size wr)=>(z.good.cell (p:=⟨b,off+k * 5+3,none⟩) hbl).trans c3
          have e3:=fun z:Wld (Below wr.heap.size wr)=>(z.good.cell (p:=⟨b',off'+k * 5+3,none⟩) hbl').trans d3
          have z4:=fun z:Wld (Below wr.heap.size wr)=>(z.good.cell (p:=⟨b,off+k * 5+4,none⟩) hbl).trans c4
          have e4:=fun z:Wld (Below wr.heap.size wr)=>(z.good.cell (p:=⟨b',off'+k * 5+4,none⟩) hbl').trans d4
          repeat (go_big_quiet_step (fail))
          refine wpQuiet_nil ?_
          intro w3 b3
          have B3:=hid (HB.out.trans (b3.mono HB.out.size))
          clear b3 ne z0 e0 c0 d0 z1 e1 c1 d1 z2 e2 c2 d2 z3 e3 c3 d3 z4 e4 c4 d4
          go_wp2_with fail
          go_roundw
          case rel=>exact ⟨k+1,by omega,by go_num,(fun t ht=>by
           rcases Nat.lt_or_eq_of_le (Nat.le_of_lt_succ ht) with h|rfl
           · exact HF.out t h
           · exact HR.out),B3⟩
          case measure=>simp [intOf];omega
   · obtain rfl:k=n:=by omega
     have HE:=hid (show x=y from list_hit HN.out HM.out HF.out)
     go_wp2_with fail
     go_ret
     exact ⟨by rw [decide_eq_true HE.out];rfl,HB.out⟩
 · have HE:=hid (show ¬ x=y from fun e=>hne (by rw [e]))
   go_enter Tryz.func34,Tryz.ntmps34
   go_wp2_with fail
   go_ret
   exact ⟨by rw [decide_eq_false HE.out];rfl,Below.refl _ _⟩
theorem eqstr_any {p q:Nat->Prop} {va vb:Value} {x y:List ByteArray} {w:World} (hx:SlV strF p w va x) (hy:SlV strF q w vb y) :
 Calls Tryz.prog 31 #[va,vb] w fun e w'=>e=.returned (.bool (decide (x=y)))/\Below w.heap.size w w':=by
 obtain ⟨a,c,rfl,h3,h4,h5⟩:=hx
 obtain ⟨a',c',rfl,h3',h4',h5'⟩:=hy
 by_cases hne:x.length=y.length
 · by_cases h0:x.length=0
   · have hc:=Tryz.slices_Equal_string_empty a a' c y.length c' w (by omega)
     rw [h0]
     refine hc.mono ?_
     rintro e w' ⟨h1,rfl⟩
     refine ⟨?_,Below.refl _ _⟩
     have e1:x=[]:=List.eq_nil_of_length_eq_zero h0
     have e2:y=[]:=List.eq_nil_of_length_eq_zero (by omega)
     rw [h1,e1,e2]
     rfl
   · obtain ⟨b,o,rfl,_,_⟩:=h5.addr (by intro e;rw [e] at h0;exact h0 rfl)
     obtain ⟨b',o',rfl,_,_⟩:=h5'.addr (by intro e;rw [e] at hne;exact h0 hne)
     have hc1:∀ j,j<x.length->w.cell? ⟨b,o+j,none⟩=some (.string (x.getD j ByteArray.empty)):=fun j hj=>by
      have:=h5.flat j hj 0 (by decide)
      simp only [strEnc,List.getElem?_cons_zero,Nat.mul_one,Nat.add_zero] at this
      rw [this]
      simp [List.getD_eq_getElem?_getD,hj]
     have hc2:∀ j,j<y.length->w.cell? ⟨b',o'+j,none⟩=some (.string (y.getD j ByteArray.empty)):=fun j hj=>by
      have:=h5'.flat j hj 0 (by decide)
      simp only [strEnc,List.getElem?_cons_zero,Nat.mul_one,Nat.add_zero] at this
      rw [this]
      simp [List.getD_eq_getElem?_getD,hj]
     refine (Tryz.slices_Equal_string b o x.length c b' o' y.length c' x y w (jR _) (jR _) (by omega) (by omega) hc1 hc2).mono ?_
     rintro e w' ⟨h1,q,rfl⟩
     rw [List.take_length,List.take_length] at h1
     exact ⟨h1,below_drewN b0R _⟩
 · refine (Tryz.slices_Equal_string_lens a a' x.length c y.length c' w hne).mono ?_
   rintro e w' ⟨h1,rfl⟩
   refine ⟨?_,Below.refl _ _⟩
   rw [h1,decide_eq_false (fun e=>hne (by rw [e]))]
end
end Go.Proofs.YtjcpccadmcglgaaGreatDoor
