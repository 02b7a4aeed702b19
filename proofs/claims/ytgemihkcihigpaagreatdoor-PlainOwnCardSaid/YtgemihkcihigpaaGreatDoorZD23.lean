/- slices.Equal at columns and at ints. -/
import Derived.Laws.StructEq
import Derived.Test.YtgemihkcihigpaaGreatDoorZD21
set_option linter.unusedVariables false
set_option linter.unusedSimpArgs false
set_option maxRecDepth 100000
set_option maxHeartbeats 64000000
namespace Go.Proofs.YtgemihkcihigpaaGreatDoor
open Go.Lib (hid)
section
open Go.RowKit
def eqC (x y:ByteArray × Int):Bool:=(x.1.toList == y.1.toList) && (x.2 == y.2)
def ecolAt (L:List (ByteArray × Int)) (t:Nat):ByteArray × Int:=(L[t]?).getD (noStr,0)
theorem ecolAt_eq {L:List (ByteArray × Int)} {t:Nat} (h:t<L.length):ecolAt L t=L[t]:=by
 unfold ecolAt
 rw [List.getElem?_eq_getElem h];rfl
def eqCols (x y:List (ByteArray × Int)):Bool:=decide (x.length=y.length) && allN (fun t=>eqC (ecolAt x t) (ecolAt y t)) x.length
def eqI (x y:Int):Bool:=x == y
def eintAt (L:List Int) (t:Nat):Int:=(L[t]?).getD 0
theorem eintAt_eq {L:List Int} {t:Nat} (h:t<L.length):eintAt L t=L[t]:=by
 unfold eintAt
 rw [List.getElem?_eq_getElem h];rfl
def eqInts (x y:List Int):Bool:=decide (x.length=y.length) && allN (fun t=>eqI (eintAt x t) (eintAt y t)) x.length
theorem eqcols_any {p q:Nat->Prop} {a a':Option Addr} {c c':Nat} {x y:List (ByteArray × Int)} {w:World} (hx:SlV colR p w (.slice a x.length c) x) (hy:SlV colR q w (.slice a' y.length c') y) :
 Calls Tryz.prog 74 #[.slice a x.length c,.slice a' y.length c'] w fun e w'=>e=.returned (.bool (eqCols x y))/\Below w.heap.size w w':=by
 have HX:=hid hx
 have HY:=hid hy
 clear hx hy
 by_cases hne:x.length=y.length
 · have HE0:=hid (show eqCols x y=allN (fun t=>eqC (ecolAt x t) (ecolAt y t)) x.length by unfold eqCols;rw [decide_eq_true hne];rfl)
   have HE1:=hid (show ∀ k,k<x.length->eqC (ecolAt x k) (ecolAt y k)=false->eqCols x y=false from fun k h1 h2=>by rw [HE0.out];exact allN_miss h1 h2)
   obtain ⟨n,hn⟩:∃ n,x.length=n:=⟨_,rfl⟩
   have hm:y.length=n:=by omega
   have hnl:=HX.out.row.2.2.1
   rw [hn] at hnl
   have HN:=hid hn
   have HM:=hid hm
   rw [hn,hm]
   clear hn hm hne
   go_enter Tryz.func74,Tryz.ntmps74
   go_wp2_with fail
   go_loopw [13] (fun i wr=>∃ k:Nat,k<=n/\i=.int .i64 k/\Hid (∀ t,t<k->eqC (ecolAt x t) (ecolAt y t)=true)/\Hid (Below w.heap.size w wr)) (fun i _=>n - (intOf i).toNat)
   case atStart=>exact ⟨0,Nat.zero_le _,rfl,(fun t ht=>by omega),Below.refl _ _⟩
   case round =>
   obtain ⟨k,hk,rfl,HF,HB⟩:=hrel
   by_cases hlt:k<n
   · have hkx:k<x.length:=by rw [HN.out];exact hlt
     have hky:k<y.length:=by rw [HM.out];exact hlt
     have rx:=(HX.out.below HB.out).row.2.2.2
     have ry:=(HY.out.below HB.out).row.2.2.2
     obtain ⟨b,off,rfl,_,hbl⟩:=rx.addr (by intro e;rw [e] at hkx;cases hkx)
     obtain ⟨b',off',rfl,_,hbl'⟩:=ry.addr (by intro e;rw [e] at hky;cases hky)
     obtain ⟨c0,c1⟩:=rx.col k hkx
     obtain ⟨d0,d1⟩:=ry.col k hky
     have e1:=ecolAt_eq hkx
     have e2:=ecolAt_eq hky
     obtain ⟨⟨xs,xk⟩,hxe⟩:∃ z,x[k]=z:=⟨_,rfl⟩
     obtain ⟨⟨ys,yk⟩,hye⟩:∃ z,y[k]=z:=⟨_,rfl⟩
     rw [hxe] at c0 c1 e1
     rw [hye] at d0 d1 e2
     simp only at c0 c1 d0 d1
     have e0:eqC (ecolAt x k) (ecolAt y k)=((xs.toList == ys.toList) && (xk == yk)):=by rw [e1,e2];rfl
     have HKX:=hid hkx
     clear rx ry e1 e2 hxe hye hkx hky
     have HE:=hid (show eqC (ecolAt x k) (ecolAt y k)=((xs.toList == ys.toList) && (xk == yk)) by rw [e0])
     clear e0
     rcases (show ((xs.toList == ys.toList)=true/\(xk == yk)=true) \/ ((xs.toList == ys.toList)=true/\(xk == yk)=false) \/ (xs.toList == ys.toList)=false by
      cases (xs.toList == ys.toList) <;> cases (xk == yk) <;> simp) with ⟨h1,h2⟩|⟨h1,h2⟩|h1
     · have HR:=hid (show eqC (ecolAt x k) (ecolAt y k)=true by rw [HE.out,h1,h2];rfl)
       go_upto_region 6 with (fail)
       refine wp_region_class (Below wr.heap.size wr) (by kernel_rfl) (by kernel_rfl) (Below.drew b0R) (fun ne=>?_)
       have z0:=fun z:Wld (Below wr.heap.size wr)=>(z.good.cell (p:=⟨b,off+k * 2,none⟩) hbl).trans c0
       have y0:=fun z:Wld (Below wr.heap.size wr)=>(z.good.cell (p:=⟨b',off'+k * 2,none⟩) hbl').trans d0
       have z1:=fun z:Wld (Below wr.heap.size wr)=>(z.good.cell (p:=⟨b,off+k * 2+1,none⟩) hbl).trans c1
       have y1:=fun z:Wld (Below wr.heap.size wr)=>(z.good.cell (p:=⟨b',off'+k * 2+1,none⟩) hbl').trans d1
       repeat (go_big_quiet_step (fail))
       refine wpQuiet_nil ?_
       intro w3 b3
       have B3:=hid (HB.out.trans (b3.mono HB.out.size))
       clear b3 ne z0 y0 c0 d0 z1 y1 c1 d1
       go_wp2_with fail
       go_roundw
       case rel=>exact ⟨k+1,by omega,by go_num,(fun t ht=>by
        rcases Nat.lt_or_eq_of_le (Nat.le_of_lt_succ ht) with h|rfl
        · exact HF.out t h
        · exact HR.out),B3⟩
       case measure=>simp [intOf];omega
     · have HR:=hid (show eqC (ecolAt x k) (ecolAt y k)=false by rw [HE.out,h1,h2];rfl)
       go_upto_region 6 with (fail)
       refine wp_region_class (Below wr.heap.size wr) (by kernel_rfl) (by kernel_rfl) (Below.drew b0R) (fun ne=>?_)
       have z0:=fun z:Wld (Below wr.heap.size wr)=>(z.good.cell (p:=⟨b,off+k * 2,none⟩) hbl).trans c0
       have y0:=fun z:Wld (Below wr.heap.size wr)=>(z.good.cell (p:=⟨b',off'+k * 2,none⟩) hbl').trans d0
       have z1:=fun z:Wld (Below wr.heap.size wr)=>(z.good.cell (p:=⟨b,off+k * 2+1,none⟩) hbl).trans c1
       have y1:=fun z:Wld (Below wr.heap.size wr)=>(z.good.cell (p:=⟨b',off'+k * 2+1,none⟩) hbl').trans d1
       repeat (go_big_quiet_step (fail))
       refine wpQuiet_nil ?_
       intro w3 b3
       have B3:=hid (HB.out.trans (b3.mono HB.out.size))
       clear b3 ne z0 y0 c0 d0 z1 y1 c1 d1
       go_wp2_with fail
       go_ret
       exact ⟨by rw [HE1.out k HKX.out HR.out];rfl,B3.out⟩
     · have HR:=hid (show eqC (ecolAt x k) (ecolAt y k)=false by rw [HE.out,h1];rfl)
       go_upto_region 6 with (fail)
       refine wp_region_class (Below wr.heap.size wr) (by kernel_rfl) (by kernel_rfl) (Below.drew b0R) (fun ne=>?_)
       have z0:=fun z:Wld (Below wr.heap.size wr)=>(z.good.cell (p:=⟨b,off+k * 2,none⟩) hbl).trans c0
       have y0:=fun z:Wld (Below wr.heap.size wr)=>(z.good.cell (p:=⟨b',off'+k * 2,none⟩) hbl').trans d0
       have z1:=fun z:Wld (Below wr.heap.size wr)=>(z.good.cell (p:=⟨b,off+k * 2+1,none⟩) hbl).trans c1
       have y1:=fun z:Wld (Below wr.heap.size wr)=>(z.good.cell (p:=⟨b',off'+k * 2+1,none⟩) hbl').trans d1
       repeat (go_big_quiet_step (fail))
       refine wpQuiet_nil ?_
       intro w3 b3
       have B3:=hid (HB.out.trans (b3.mono HB.out.size))
       clear b3 ne z0 y0 c0 d0 z1 y1 c1 d1
       go_wp2_with fail
       go_ret
       exact ⟨by rw [HE1.out k HKX.out HR.out];rfl,B3.out⟩
   · obtain rfl:k=n:=by omega
     have HE:=hid (show eqCols x y=true from HE0.out.trans (by rw [HN.out];exact allN_hit HF.out))
     go_wp2_with fail
     go_ret
     exact ⟨by rw [HE.out];rfl,HB.out⟩
 · have HE:=hid (show eqCols x y=false by unfold eqCols;rw [decide_eq_false hne];rfl)
   go_enter Tryz.func74,Tryz.ntmps74
   go_wp2_with fail
   go_ret
   exact ⟨by rw [HE.out];rfl,Below.refl _ _⟩
theorem eqints_any {p q:Nat->Prop} {a a':Option Addr} {c c':Nat} {x y:List (Int)} {w:World} (hx:SlV intR p w (.slice a x.length c) x) (hy:SlV intR q w (.slice a' y.length c') y) :
 Calls Tryz.prog 72 #[.slice a x.length c,.slice a' y.length c'] w fun e w'=>e=.returned (.bool (eqInts x y))/\Below w.heap.size w w':=by
 have HX:=hid hx
 have HY:=hid hy
 clear hx hy
 by_cases hne:x.length=y.length
 · have HE0:=hid (show eqInts x y=allN (fun t=>eqI (eintAt x t) (eintAt y t)) x.length by unfold eqInts;rw [decide_eq_true hne];rfl)
   have HE1:=hid (show ∀ k,k<x.length->eqI (eintAt x k) (eintAt y k)=false->eqInts x y=false from fun k h1 h2=>by rw [HE0.out];exact allN_miss h1 h2)
   obtain ⟨n,hn⟩:∃ n,x.length=n:=⟨_,rfl⟩
   have hm:y.length=n:=by omega
   have hnl:=HX.out.row.2.2.1
   rw [hn] at hnl
   have HN:=hid hn
   have HM:=hid hm
   rw [hn,hm]
   clear hn hm hne
   go_enter Tryz.func72,Tryz.ntmps72
   go_wp2_with fail
   go_loopw [13] (fun i wr=>∃ k:Nat,k<=n/\i=.int .i64 k/\Hid (∀ t,t<k->eqI (eintAt x t) (eintAt y t)=true)/\Hid (Below w.heap.size w wr)) (fun i _=>n - (intOf i).toNat)
   case atStart=>exact ⟨0,Nat.zero_le _,rfl,(fun t ht=>by omega),Below.refl _ _⟩
   case round =>
   obtain ⟨k,hk,rfl,HF,HB⟩:=hrel
   by_cases hlt:k<n
   · have hkx:k<x.length:=by rw [HN.out];exact hlt
     have hky:k<y.length:=by rw [HM.out];exact hlt
     have rx:=(HX.out.below HB.out).row.2.2.2
     have ry:=(HY.out.below HB.out).row.2.2.2
     obtain ⟨b,off,rfl,_,hbl⟩:=rx.addr (by intro e;rw [e] at hkx;cases hkx)
     obtain ⟨b',off',rfl,_,hbl'⟩:=ry.addr (by intro e;rw [e] at hky;cases hky)
     have c0:=rx.int k hkx
     have d0:=ry.int k hky
     have e1:=eintAt_eq hkx
     have e2:=eintAt_eq hky
     obtain ⟨xk,hxe⟩:∃ z,x[k]=z:=⟨_,rfl⟩
     obtain ⟨yk,hye⟩:∃ z,y[k]=z:=⟨_,rfl⟩
     rw [hxe] at c0 e1
     rw [hye] at d0 e2
     have e0:eqI (eintAt x k) (eintAt y k)=(xk == yk):=by rw [e1,e2];rfl
     have HKX:=hid hkx
     clear rx ry e1 e2 hxe hye hkx hky
     have HE:=hid (show eqI (eintAt x k) (eintAt y k)=(xk == yk) by rw [e0])
     clear e0
     rcases (show (xk == yk)=true \/ (xk == yk)=false by cases (xk == yk) <;> simp) with h1|h1
     · have h2:(xk != yk)=false:=by rw [bne,h1];rfl
       have HR:=hid (show eqI (eintAt x k) (eintAt y k)=true by rw [HE.out,h1])
       go_upto_region 6 with (fail)
       refine wp_region_class (Below wr.heap.size wr) (by kernel_rfl) (by kernel_rfl) (Below.drew b0R) (fun ne=>?_)
       have z0:=fun z:Wld (Below wr.heap.size wr)=>(z.good.cell (p:=⟨b,off+k,none⟩) hbl).trans c0
       have y0:=fun z:Wld (Below wr.heap.size wr)=>(z.good.cell (p:=⟨b',off'+k,none⟩) hbl').trans d0
       repeat (go_big_quiet_step (fail))
       refine wpQuiet_nil ?_
       intro w3 b3
       have B3:=hid (HB.out.trans (b3.mono HB.out.size))
       clear b3 ne z0 y0 c0 d0
       go_wp2_with fail
       go_roundw
       case rel=>exact ⟨k+1,by omega,by go_num,(fun t ht=>by
        rcases Nat.lt_or_eq_of_le (Nat.le_of_lt_succ ht) with h|rfl
        · exact HF.out t h
        · exact HR.out),B3⟩
       case measure=>simp [intOf];omega
     · have h2:(xk != yk)=true:=by rw [bne,h1];rfl
       have HR:=hid (show eqI (eintAt x k) (eintAt y k)=false by rw [HE.out,h1])
       go_upto_region 6 with (fail)
       refine wp_region_class (Below wr.heap.size wr) (by kernel_rfl) (by kernel_rfl) (Below.drew b0R) (fun ne=>?_)
       have z0:=fun z:Wld (Below wr.heap.size wr)=>(z.good.cell (p:=⟨b,off+k,none⟩) hbl).trans c0
       have y0:=fun z:Wld (Below wr.heap.size wr)=>(z.good.cell (p:=⟨b',off'+k,none⟩) hbl').trans d0
       repeat (go_big_quiet_step (fail))
       refine wpQuiet_nil ?_
       intro w3 b3
       have B3:=hid (HB.out.trans (b3.mono HB.out.size))
       clear b3 ne z0 y0 c0 d0
       go_wp2_with fail
       go_ret
       exact ⟨by rw [HE1.out k HKX.out HR.out];rfl,B3.out⟩
   · obtain rfl:k=n:=by omega
     have HE:=hid (show eqInts x y=true from HE0.out.trans (by rw [HN.out];exact allN_hit HF.out))
     go_wp2_with fail
     go_ret
     exact ⟨by rw [HE.out];rfl,HB.out⟩
 · have HE:=hid (show eqInts x y=false by unfold eqInts;rw [decide_eq_false hne];rfl)
   go_enter Tryz.func72,Tryz.ntmps72
   go_wp2_with fail
   go_ret
   exact ⟨by rw [HE.out];rfl,Below.refl _ _⟩
end
end Go.Proofs.YtgemihkcihigpaaGreatDoor
