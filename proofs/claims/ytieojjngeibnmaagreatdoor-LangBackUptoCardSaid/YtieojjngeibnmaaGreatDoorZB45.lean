/- The reference's generated statement. -/
import Derived.Test.YtieojjngeibnmaaGreatDoorZB43
import Derived.Laws.CopyOwn
import Derived.Laws.Tables
set_option linter.unusedVariables false
set_option linter.unusedSimpArgs false
set_option maxRecDepth 100000
set_option maxHeartbeats 64000000
namespace Go.Proofs.YtieojjngeibnmaaGreatDoor
open Go.Lib (hid)
section
open Go.RowKit
theorem tb3_at {j:Nat} (h:j<3):∃ x,tb3[j]? = some x/\x ∈ tb3:=by
 have:j<tb3.length:=h
 exact ⟨tb3[j],List.getElem?_eq_getElem this,List.getElem_mem this⟩
theorem col_cells (c:ByteArray × Int):∀ u ∈ colEnc c,u.oneCell'=true:=by
 intro u hu
 simp only [colEnc,List.mem_cons,List.not_mem_nil,or_false] at hu
 rcases hu with rfl|rfl <;> rfl
theorem set_cells (c:SetV):∀ u ∈ setEnc c,u.oneCell'=true:=by
 intro u hu
 simp only [setEnc,List.mem_cons,List.not_mem_nil,or_false] at hu
 rcases hu with rfl|rfl|rfl|rfl|rfl <;> rfl
theorem set3 {wr w:World} {g:Nat} {T:TypeId} {x0 x1 x2 x3 x4:Value} (h:w.heap[g]? = some (.cells #[x0,x1,x2,x3,x4] T (0,0))) (b:Below wr.heap.size wr w) (hg:wr.heap.size<=g) (a2 a3 a4:Value) :
 (((w.setCell ⟨g,2,none⟩ a2).setCell ⟨g,3,none⟩ a3).setCell ⟨g,4,none⟩ a4).heap[g]? = some (.cells #[x0,x1,a2,a3,a4] T (0,0))/\Below wr.heap.size wr (((w.setCell ⟨g,2,none⟩ a2).setCell ⟨g,3,none⟩ a3).setCell ⟨g,4,none⟩ a4) :=
 ⟨heap_setCell_same _ _ 4 _ _ a4 (heap_setCell_same _ _ 3 _ _ a3 (heap_setCell_same _ _ 2 _ _ a2 h)),((b.setCell (p:=⟨g,2,none⟩) hg a2).setCell (p:=⟨g,3,none⟩) hg a3).setCell (p:=⟨g,4,none⟩) hg a4⟩
theorem own_not {w:World} {B b n sz:Nat} {e:TypeId} {v:Value} {xs:List Value} (h:w.ownsRow B e sz v n xs) (hb:b<B):some b ≠ v.ownBlock:=fun e=>by have:=(h.lt b e.symm).1;omega
theorem own_grow {w wa w5:World} {b n sz:Nat} {e:TypeId} {v:Value} {xs:List Value} (g:w.grownBy wa (some b)) (h:wa.ownsRow w.heap.size e sz v n xs) (g5:wa.grownBy w5 v.ownBlock):w.grownBy w5 (some b):=by
 cases hv:v.ownBlock with
 | none=>rw [hv] at g5;exact g.trans ⟨g5.os,g5.tape,g5.output,g5.size,fun k hk _=>g5.block k hk (fun e=>nomatch e)⟩
 | some q=>rw [hv] at g5;exact grown_new g (h.lt q hv).1 g5
def NewSB (wr:World) (u:Value) (w':World):Prop:=∃ g,u=.pointer (some ⟨g,0,none⟩)/\wr.heap.size<=g/\w'.heap[g]? = some (.cells #[.string ⟨#[]⟩,.string ⟨#[]⟩,.int .i64 0,.int .i64 0,.string ⟨#[]⟩] 96 (0,0))/\Below wr.heap.size wr w'
def SB (wr:World) (g:Nat) (y:SetV) (w':World):Prop:=w'.heap[g]? = some (.cells (setEnc y).toArray 96 (0,0))/\Below wr.heap.size wr w'
theorem names_block {w:World} {b:Nat} {p:Nat->Prop} (h:w.heap[b]? = some (.cells #[.string ⟨#[97]⟩,.string ⟨#[98]⟩,.string ⟨#[99]⟩,.string ⟨#[100,95,49]⟩] 9 (0,0))) (hp:p b):SlV strF p w (.slice (some ⟨b,0,none⟩) 4 4) nm4:=by
 refine ⟨_,_,rfl,jR _,by decide,Or.inr ⟨b,0,rfl,hp,Live.of_block h,fun t ht=>⟨strEnc nm4[t],fun j hj=>?_,rfl⟩⟩⟩
 have hj0:j=0:=Nat.lt_one_iff.1 hj
 subst hj0
 have e:=jC h (0+t * 1+0)
 refine e.trans ?_
 have ht4:t<4:=ht
 rcases (show t=0 \/ t=1 \/ t=2 \/ t=3 by omega) with rfl|rfl|rfl|rfl <;> rfl
theorem made17_any {q:Nat->Prop} {al:Option Addr} {cl:Nat} {l:List Int} {w:World} (hl:SlV intR q w (.slice al l.length cl) l) :
 Calls Tryz.prog 14 #[.slice al l.length cl] w fun e w'=>(∃ L s,e=.returned (.agg (stC L s))/\Made17 s/\SlsAt (fun k=>w.heap.size<=k) w' L s)/\Below w.heap.size w w':=by
 obtain ⟨Pst,hPst⟩:∃ Pst,Pst=fun (e:Ending) (w':World)=>(∃ L s,e=.returned (.agg (stC L s))/\Made17 s/\SlsAt (fun k=>w.heap.size<=k) w' L s)/\Below w.heap.size w w':=⟨_,rfl⟩
 have HPST:=hid hPst
 rw [<- hPst]
 obtain ⟨j0,hj0,hj020⟩:=pick_nat l 0 (n:=20) (m:=20) rfl (by decide)
 obtain ⟨W1,hW1⟩:∃ W,(w.alloc (.cells #[.int .i64 0,.string ⟨#[]⟩,.string ⟨#[]⟩,.slice none 0 0,.slice none 0 0,.slice none 0 0,.slice none 0 0,.slice none 0 0,.string ⟨#[]⟩,.string ⟨#[]⟩,.string ⟨#[]⟩,.int .i64 0,.slice none 0 0,.int .i64 0,.int .i64 0] 29)).alloc (.cells #[.string ⟨#[97]⟩,.string ⟨#[98]⟩,.string ⟨#[99]⟩,.string ⟨#[100,95,49]⟩] 9)=W:=⟨_,rfl⟩
 have b1:Below w.heap.size w W1:=by rw [<- hW1];exact ((b0R).alloc (jR _) _).alloc (by simp) _
 have s1:W1.heap.size=w.heap.size+2:=by rw [<- hW1];simp
 have hR:W1.heap[w.heap.size]? = some (.cells (stC nilL stmt0) 29 (0,0)):=by rw [<- hW1];exact (heap_alloc_old _ _ (by simp)).trans (heap_alloc_new _ _)
 have hN:W1.heap[w.heap.size+1]? = some (.cells #[.string ⟨#[97]⟩,.string ⟨#[98]⟩,.string ⟨#[99]⟩,.string ⟨#[100,95,49]⟩] 9 (0,0)):=by
  rw [<- hW1]
  have:=heap_alloc_new (w.alloc (.cells #[.int .i64 0,.string ⟨#[]⟩,.string ⟨#[]⟩,.slice none 0 0,.slice none 0 0,.slice none 0 0,.slice none 0 0,.slice none 0 0,.string ⟨#[]⟩,.string ⟨#[]⟩,.string ⟨#[]⟩,.int .i64 0,.slice none 0 0,.int .i64 0,.int .i64 0] 29)) (.cells #[.string ⟨#[97]⟩,.string ⟨#[98]⟩,.string ⟨#[99]⟩,.string ⟨#[100,95,49]⟩] 9)
  simpa using this
 have con:=pick_any (hl.below b1) 0 (by decide) 20 (by decide) (by decide)
 rw [hj0] at con
 have B1:=hid b1
 have HRN:=hid (And.intro hR hN)
 have HL:=hid hl
 clear hPst b1 hR hN hj0 hl
 go_enter Tryz.func14,Tryz.ntmps14
 go_wp2_with fail
 refine con.mono ?_
 rintro e w2 ⟨rfl,rfl⟩
 clear con
 go_upto_region 3 with (fail)
 obtain ⟨K,hK⟩:∃ K:Int,1+(j0:Int)=K:=⟨_,rfl⟩
 have hKb:1<=K/\K<=20:=by omega
 simp only [hK]
 obtain ⟨W2,hW2⟩:∃ W,W1.alloc (.cells #[.int .i64 K,.string ⟨#[]⟩,.string ⟨#[]⟩,.slice none 0 0,.slice none 0 0,.slice none 0 0,.slice none 0 0,.slice none 0 0,.string ⟨#[]⟩,.string ⟨#[]⟩,.string ⟨#[]⟩,.int .i64 0,.slice none 0 0,.int .i64 0,.int .i64 0] 29)=W:=⟨_,rfl⟩
 rw [hW2]
 obtain ⟨b,hb⟩:∃ b,b=w.heap.size+2:=⟨_,rfl⟩
 rw [<- hb]
 have b2:Below W1.heap.size W1 W2:=by rw [<- hW2];exact (b0R).alloc (jR _) _
 have s2:W2.heap.size=w.heap.size+3:=by rw [<- hW2];simp [s1]
 have hB2:W2.heap[b]? = some (.cells (stC nilL { stmt0 with kind:=K }) 29 (0,0)):=by rw [<- hW2,hb,<- s1];exact heap_alloc_new _ _
 have HRN2:=hid (show W2.heap[w.heap.size]? = some (.cells (stC nilL stmt0) 29 (0,0))/\W2.heap[w.heap.size+1]? = some (.cells #[.string ⟨#[97]⟩,.string ⟨#[98]⟩,.string ⟨#[99]⟩,.string ⟨#[100,95,49]⟩] 9 (0,0)) from ⟨(b2.block _ (by omega)).trans HRN.out.1,(b2.block _ (by omega)).trans HRN.out.2⟩)
 have HB2:=hid (B1.out.trans (b2.mono B1.out.size))
 have HP:=hid (show ¬ (w.heap.size<b/\b ≠ b) from fun h=>h.2 rfl)
 have Q2:=hid (show QX (fun k=>w.heap.size<k/\k ≠ b) W2 b nilL { stmt0 with kind:=K } W2 from ⟨hB2,by have:=nil_read (fun k=>w.heap.size<k/\k ≠ b) W2;exact ⟨this.cols,this.names,this.row,this.sets,this.wher,this.order⟩,grownBy_refl _ _⟩)
 obtain ⟨j1,hj1,hj13⟩:=pick_nat l 1 (n:=3) (m:=3) rfl (by decide)
 obtain ⟨T,hT,hTm⟩:=tb3_at hj13
 obtain ⟨W3,hW3⟩:∃ W,W2.alloc (.cells #[.string ⟨#[116]⟩,.string ⟨#[117]⟩,.string ⟨#[97,99,99,111,117,110,116,115]⟩] 9)=W:=⟨_,rfl⟩
 have b3:Below W2.heap.size W2 W3:=by rw [<- hW3];exact (b0R).alloc (jR _) _
 have HT:=hid hTm
 have cT:W3.cell? ⟨w.heap.size+3,j1,none⟩=some (.string T):=by
  have h9:=jC (heap_alloc_new W2 (.cells #[.string ⟨#[116]⟩,.string ⟨#[117]⟩,.string ⟨#[97,99,99,111,117,110,116,115]⟩] 9)) j1
  rw [hW3,s2] at h9
  rw [h9]
  have e9:(#[.string ⟨#[116]⟩,.string ⟨#[117]⟩,.string ⟨#[97,99,99,111,117,110,116,115]⟩]:Array Value)=(tb3.map Value.string).toArray:=rfl
  rw [e9,List.getElem?_toArray,List.getElem?_map,hT]
  rfl
 have con:=pick_any (HL.out.below (HB2.out.trans (b3.mono HB2.out.size))) 1 (by decide) 3 (by decide) (by decide)
 rw [hj1] at con
 have Q3:=hid (Q2.out.below b3)
 have f1:=free_of Q3.out.box 1
 have z1:=jC Q3.out.box 1
 simp only [stC,List.getElem?_toArray,List.getElem?_cons_zero,List.getElem?_cons_succ] at z1
 have hb1:w.heap.size+1<b:=by omega
 have hb2:b<w.heap.size+3:=by omega
 obtain ⟨W4,hW4⟩:∃ W,W3.setCell ⟨b,1,none⟩ (.string T)=W:=⟨_,rfl⟩
 have Q4:=hid (show QX (fun k=>w.heap.size<k/\k ≠ b) W2 b nilL { stmt0 with kind:=K,table:=T } W4 by
  rw [<- hW4]
  have hl:=Q3.out.ls
  exact Q3.out.put HP.out 1 _ rfl ⟨hl.cols,hl.names,hl.row,hl.sets,hl.wher,hl.order⟩)
 have s4:W4.heap.size=w.heap.size+4:=by rw [<- hW4,<- hW3];simp [s2]
 have HLb:=hid (show SlV intR (fun k=>k ≠ b) W4 (.slice al l.length cl) l from (Q4.out.arg (v:=.slice al l.length cl) (q:=fun k=>k<w.heap.size) (by omega) (((HL.out.bound).weaken fun k h=>h.2).below HB2.out)).weaken fun k h=>(by omega))
 clear hb hK hW2 b2 hB2 hj1 hT hTm b3 B1 HRN Q2 Q3 HL hj020 hW1
 go_wp2_with fail
 refine con.mono ?_
 rintro e w2 ⟨rfl,rfl⟩
 clear con
 obtain ⟨j2,hj2,hj23⟩:=pick_nat l 2 (n:=3) (m:=3) rfl (by decide)
 have con:=pick_any HLb.out 2 (by decide) 3 (by decide) (by decide)
 rw [hj2] at con
 obtain ⟨n,hn⟩:∃ n:Nat,(1:Int)+(j2:Int)=(n:Int):=⟨1+j2,by omega⟩
 have hnb:1<=n/\n<=3:=by omega
 clear hj2
 go_wp2_with fail
 refine con.mono ?_
 rintro e w2 ⟨rfl,rfl⟩
 clear con
 have con:=mrow_any HLb.out
 go_wp2_with fail
 refine con.mono ?_
 rintro e W5 ⟨⟨r,v,rfl,hr7,hok,o5⟩,b5⟩
 obtain ⟨ra,rc,rfl⟩:=owned_shape o5
 have s5:=b5.size
 have Q5:=hid (Q4.out.below b5)
 have HN5:=hid (show SlV strF (fun k=>k ≠ b) W5 (.slice (some ⟨w.heap.size+1,0,none⟩) 4 4) nm4 from by
  have h2:W5.heap[w.heap.size+1]? = some (.cells #[.string ⟨#[97]⟩,.string ⟨#[98]⟩,.string ⟨#[99]⟩,.string ⟨#[100,95,49]⟩] 9 (0,0)):=(Q5.out.g.block _ (by omega) (fun e=>by simp at e;omega)).trans HRN2.out.2
  exact names_block h2 (by omega))
 have HR5:=hid (show SlV valR (fun k=>w.heap.size+4<=k) W5 (.slice ra 7 rc) r from by have:=sl_owned (enc:=valEnc) (sz:=3) (hl:=fun _=>rfl) (L:=r) (by rw [hr7];exact o5) (by omega);rw [s4] at this;exact this)
 have HL5:=hid (HLb.out.below b5)
 have HRR:=hid (And.intro hr7 hok)
 clear con b5 o5 hr7 hok Q4 HLb
 have G5:=hid Q5.out.g
 have hs5:=G5.out.size
 have Q5:=hid (show QX (fun k=>w.heap.size<k/\k ≠ b) W5 b nilL { stmt0 with kind:=K,table:=T } W5 from ⟨Q5.out.box,Q5.out.ls,grownBy_refl _ _⟩)
 have z0:=jC Q5.out.box 0
 simp only [stC,List.getElem?_toArray,List.getElem?_cons_zero,List.getElem?_cons_succ] at z0
 have HL5a:=hid (show SlV intR (fun k=>k ≠ b) W5 (.slice al l.length cl) l from HL5.out)
 have HN5a:=hid HN5.out
 have HR5a:=hid (show SlV valR (fun k=>k ≠ b) W5 (.slice ra 7 rc) r from HR5.out.weaken fun k hk=>by omega)
 go_upto_block 0 with (fail)
 go_cut [5] from 7 to 189 (fun x5 wx=>∃ L s,Hid (Made17 s)/\Hid (QX (fun k=>w.heap.size<k/\k ≠ b) W5 b L s wx))
 case first =>
  clear z0
  by_cases k3:K=3
  · subst k3
    obtain ⟨jx,hjx,bjx⟩:=pick_nat l 3 (n:=4) (m:=4) rfl (by decide)
    have conjx:=pick_any (Q5.out.arg (q:=fun k=>k ≠ b) (fun h=>h rfl) HL5a.out) 3 (by decide) 4 (by decide) (by decide)
    rw [hjx] at conjx
    clear hjx
    obtain ⟨x,hx,mx⟩:=nm4_at bjx
    have cx:=names_cell (Q5.out.arg (q:=fun k=>k ≠ b) (fun h=>h rfl) HN5a.out).row.2.2.2 hx
    rw [Nat.zero_add] at cx
    have Mx:=hid mx
    clear hx mx
    have f6:=free_of Q5.out.box 2
    have z6:=jC Q5.out.box 2
    simp only [stC,nilL,List.getElem?_toArray,List.getElem?_cons_zero,List.getElem?_cons_succ] at z6
    obtain ⟨V6,hV6⟩:∃ W,W5.setCell ⟨b,2,none⟩ (.string x)=W:=⟨_,rfl⟩
    have R6:=hid (show QX (fun k=>w.heap.size<k/\k ≠ b) W5 b nilL { stmt0 with kind:=3,table:=T,name:=x } V6 by
     rw [<- hV6]
     have hl:=Q5.out.ls
     exact Q5.out.put HP.out 2 _ rfl ⟨hl.cols,hl.names,hl.row,hl.sets,hl.wher,hl.order⟩)
    obtain ⟨jy,hjy,bjy⟩:=pick_nat l 4 (n:=4) (m:=4) rfl (by decide)
    have conjy:=pick_any (R6.out.arg (q:=fun k=>k ≠ b) (fun h=>h rfl) HL5a.out) 4 (by decide) 4 (by decide) (by decide)
    rw [hjy] at conjy
    clear hjy
    obtain ⟨y,hy,my⟩:=nm4_at bjy
    have cyl:=names_cell (R6.out.arg (q:=fun k=>k ≠ b) (fun h=>h rfl) HN5a.out).row.2.2.2 hy
    rw [Nat.zero_add] at cyl
    have My:=hid my
    clear hy my
    have f7:=free_of R6.out.box 8
    have z7:=jC R6.out.box 8
    simp only [stC,nilL,List.getElem?_toArray,List.getElem?_cons_zero,List.getElem?_cons_succ] at z7
    obtain ⟨V7,hV7⟩:∃ W,V6.setCell ⟨b,8,none⟩ (.string y)=W:=⟨_,rfl⟩
    have R7:=hid (show QX (fun k=>w.heap.size<k/\k ≠ b) W5 b nilL { stmt0 with kind:=3,table:=T,name:=x,join:=y } V7 by
     rw [<- hV7]
     have hl:=R6.out.ls
     exact R6.out.put HP.out 8 _ rfl ⟨hl.cols,hl.names,hl.row,hl.sets,hl.wher,hl.order⟩)
    go_wp2_with fail
    refine conjx.mono ?_
    rintro e w2 ⟨rfl,rfl⟩
    clear conjx
    go_wp2_with fail
    refine conjy.mono ?_
    rintro e w2 ⟨rfl,rfl⟩
    clear conjy
    go_wp2_with fail
    go_meet
    exact ⟨_,_,Made17.rename T x y HT.out Mx.out My.out,R7⟩
  by_cases k4:K=4
  · subst k4
    obtain ⟨Z,hZ⟩:∃ Z,Z=r.take n:=⟨_,rfl⟩
    have hZl:n=Z.length:=by rw [hZ,List.length_take,HRR.out.1];omega
    have HZ:=hid (show (∀ u ∈ Z,ValS u) from fun u hu=>HRR.out.2 u (by rw [hZ] at hu;exact List.mem_of_mem_take hu))
    have SLZ:=hid (show SlV valR (fun k=>w.heap.size<k/\k ≠ b) W5 (.slice ra Z.length rc) Z from by
     have h9:=HR5.out.row
     exact ⟨ra,rc,rfl,by omega,by omega,by rw [hZ];exact (row_take h9.2.2.2 n).weaken fun k hk=>by omega⟩)
    have hrc:7<=rc:=HR5.out.row.2.1
    obtain ⟨rb,ro,rfl,-,-⟩:=HR5.out.row.2.2.2.addr (by intro e;have:=HRR.out.1;rw [e] at this;simp at this)
    clear hZ
    subst hZl
    have f6:=free_of Q5.out.box 5
    have z6:=jC Q5.out.box 5
    simp only [stC,nilL,List.getElem?_toArray,List.getElem?_cons_zero,List.getElem?_cons_succ] at z6
    obtain ⟨V6,hV6⟩:∃ W,W5.setCell ⟨b,5,none⟩ (.slice (some ⟨rb,ro,none⟩) Z.length rc)=W:=⟨_,rfl⟩
    have R6:=hid (show QX (fun k=>w.heap.size<k/\k ≠ b) W5 b { nilL with row:=.slice (some ⟨rb,ro,none⟩) Z.length rc } { stmt0 with kind:=4,table:=T,row:=Z } V6 by
     rw [<- hV6]
     have hl:=Q5.out.ls
     exact Q5.out.put HP.out 5 _ rfl ⟨hl.cols,hl.names,SLZ.out,hl.sets,hl.wher,hl.order⟩)
    go_wp2_with fail
    go_meet
    exact ⟨_,_,Made17.insert T Z HT.out (fun e=>by rw [e] at hnb;simp at hnb) hnb.2 HZ.out,R6⟩
  by_cases k6:K=6
  · subst k6
    have con:=conds_any (Q5.out.arg (q:=fun k=>k ≠ b) (fun h=>h rfl) HL5a.out) (Q5.out.arg (q:=fun k=>k ≠ b) (fun h=>h rfl) HN5a.out) (Q5.out.arg (q:=fun k=>k ≠ b) (fun h=>h rfl) HR5a.out) HRR.out.1 HRR.out.2
    go_wp2_with fail
    refine con.mono ?_
    rintro e w8 ⟨⟨cs,v8,rfl,hc3,hcs,o8⟩,b8⟩
    obtain ⟨va8,vc8,rfl⟩:=owned_shape o8
    have hs8:=Q5.out.g.size
    have R8:=hid (Q5.out.below b8)
    have SL8:=hid (show SlV condR (fun k=>w.heap.size<k/\k ≠ b) w8 (.slice va8 cs.length vc8) cs from (sl_owned o8 (by omega)).weaken fun k hk=>by omega)
    have HC:=hid (And.intro hc3 hcs)
    clear con o8 b8 hc3 hcs
    have f9:=free_of R8.out.box 7
    have z9:=jC R8.out.box 7
    simp only [stC,nilL,List.getElem?_toArray,List.getElem?_cons_zero,List.getElem?_cons_succ] at z9
    obtain ⟨V9,hV9⟩:∃ W,w8.setCell ⟨b,7,none⟩ (.slice va8 cs.length vc8)=W:=⟨_,rfl⟩
    have R9:=hid (show QX (fun k=>w.heap.size<k/\k ≠ b) W5 b { nilL with wher:=.slice va8 cs.length vc8 } { stmt0 with kind:=6,table:=T,wher:=cs } V9 by
     rw [<- hV9]
     have hl:=R8.out.ls
     exact R8.out.put HP.out 7 _ rfl ⟨hl.cols,hl.names,hl.row,hl.sets,SL8.out,hl.order⟩)
    go_wp2_with fail
    go_meet
    exact ⟨_,_,Made17.delete T cs HT.out HC.out.1 HC.out.2,R9⟩
  by_cases k7:K=7
  · subst k7
    have con:=query_any n hnb.1 hnb.2 HT.out Q5.out.box HL5a.out HN5a.out HR5a.out (fun h=>h rfl) HRR.out.1 HRR.out.2
    have hs8:=Q5.out.g.size
    go_wp2_with fail
    refine con.mono ?_
    rintro e w8 ⟨rfl,L8,s8,hm8,q8⟩
    have HM:=hid hm8
    have R8:=hid (show QX (fun k=>w.heap.size<k/\k ≠ b) W5 b L8 s8 w8 from ⟨q8.box,q8.ls.weaken fun k hk=>by omega,Q5.out.g.trans q8.g⟩)
    clear con hm8 q8
    go_wp2_with fail
    go_meet
    exact ⟨_,_,HM.out,R8⟩
  by_cases k8:K=8
  · subst k8
    have f6:=free_of Q5.out.box 1
    have z6:=jC Q5.out.box 1
    simp only [stC,nilL,List.getElem?_toArray,List.getElem?_cons_zero,List.getElem?_cons_succ] at z6
    obtain ⟨V6,hV6⟩:∃ W,W5.setCell ⟨b,1,none⟩ (.string ⟨#[]⟩)=W:=⟨_,rfl⟩
    have R6:=hid (show QX (fun k=>w.heap.size<k/\k ≠ b) W5 b nilL { stmt0 with kind:=8,table:=noStr } V6 by
     rw [<- hV6]
     have hl:=Q5.out.ls
     exact Q5.out.put HP.out 1 _ rfl ⟨hl.cols,hl.names,hl.row,hl.sets,hl.wher,hl.order⟩)
    obtain ⟨ja,hja,bja⟩:=pick_nat l 3 (n:=3) (m:=3) rfl (by decide)
    have conja:=pick_any (R6.out.arg (q:=fun k=>k ≠ b) (fun h=>h rfl) HL5a.out) 3 (by decide) 3 (by decide) (by decide)
    rw [hja] at conja
    clear hja
    obtain ⟨jb,hjb,bjb⟩:=pick_nat l 4 (n:=2) (m:=2) rfl (by decide)
    have conjb:=pick_any (R6.out.arg (q:=fun k=>k ≠ b) (fun h=>h rfl) HL5a.out) 4 (by decide) 2 (by decide) (by decide)
    rw [hjb] at conjb
    clear hjb
    obtain ⟨jc,hjc,bjc⟩:=pick_nat l 5 (n:=2) (m:=2) rfl (by decide)
    have conjc:=pick_any (R6.out.arg (q:=fun k=>k ≠ b) (fun h=>h rfl) HL5a.out) 5 (by decide) 2 (by decide) (by decide)
    rw [hjc] at conjc
    clear hjc
    obtain ⟨md,hmd⟩:∃ md:Int,(ja:Int)+4 * (jb:Int)+8 * (jc:Int)=md:=⟨_,rfl⟩
    have HMD:=hid hmd
    have f7:=free_of R6.out.box 13
    have z7:=jC R6.out.box 13
    simp only [stC,nilL,List.getElem?_toArray,List.getElem?_cons_zero,List.getElem?_cons_succ] at z7
    obtain ⟨V7,hV7⟩:∃ W,V6.setCell ⟨b,13,none⟩ (.int .i64 md)=W:=⟨_,rfl⟩
    have R7:=hid (show QX (fun k=>w.heap.size<k/\k ≠ b) W5 b nilL { stmt0 with kind:=8,table:=noStr,mode:=md } V7 by
     rw [<- hV7]
     have hl:=R6.out.ls
     exact R6.out.put HP.out 13 _ rfl ⟨hl.cols,hl.names,hl.row,hl.sets,hl.wher,hl.order⟩)
    go_wp2_with fail
    refine conja.mono ?_
    rintro e w2 ⟨rfl,rfl⟩
    clear conja
    go_wp2_with fail
    refine conjb.mono ?_
    rintro e w2 ⟨rfl,rfl⟩
    clear conjb
    go_wp2_with fail
    refine conjc.mono ?_
    rintro e w2 ⟨rfl,rfl⟩
    clear conjc
    go_wp2_with fail
    go_meet
    exact ⟨_,_,by have:=Made17.begin ja jb jc (by omega) (by omega) (by omega) (by omega) (by omega) (by omega);rw [HMD.out] at this;exact this,R7⟩
  by_cases k16:K=16
  · subst k16
    go_wp2_with fail
    go_meet
    exact ⟨_,_,Made17.vacuum T HT.out,Q5⟩
  by_cases k9:K=9
  · subst k9
    have f6:=free_of Q5.out.box 1
    have z6:=jC Q5.out.box 1
    simp only [stC,nilL,List.getElem?_toArray,List.getElem?_cons_zero,List.getElem?_cons_succ] at z6
    obtain ⟨V6,hV6⟩:∃ W,W5.setCell ⟨b,1,none⟩ (.string ⟨#[]⟩)=W:=⟨_,rfl⟩
    have R6:=hid (show QX (fun k=>w.heap.size<k/\k ≠ b) W5 b nilL { stmt0 with kind:=9,table:=noStr } V6 by
     rw [<- hV6]
     have hl:=Q5.out.ls
     exact Q5.out.put HP.out 1 _ rfl ⟨hl.cols,hl.names,hl.row,hl.sets,hl.wher,hl.order⟩)
    go_wp2_with fail
    go_meet
    exact ⟨_,_,Made17.closed 9 (by decide),R6⟩
  by_cases k10:K=10
  · subst k10
    have f6:=free_of Q5.out.box 1
    have z6:=jC Q5.out.box 1
    simp only [stC,nilL,List.getElem?_toArray,List.getElem?_cons_zero,List.getElem?_cons_succ] at z6
    obtain ⟨V6,hV6⟩:∃ W,W5.setCell ⟨b,1,none⟩ (.string ⟨#[]⟩)=W:=⟨_,rfl⟩
    have R6:=hid (show QX (fun k=>w.heap.size<k/\k ≠ b) W5 b nilL { stmt0 with kind:=10,table:=noStr } V6 by
     rw [<- hV6]
     have hl:=Q5.out.ls
     exact Q5.out.put HP.out 1 _ rfl ⟨hl.cols,hl.names,hl.row,hl.sets,hl.wher,hl.order⟩)
    go_wp2_with fail
    go_meet
    exact ⟨_,_,Made17.closed 10 (by decide),R6⟩
  by_cases k17:K=17
  · subst k17
    have f6:=free_of Q5.out.box 1
    have z6:=jC Q5.out.box 1
    simp only [stC,nilL,List.getElem?_toArray,List.getElem?_cons_zero,List.getElem?_cons_succ] at z6
    obtain ⟨V6,hV6⟩:∃ W,W5.setCell ⟨b,1,none⟩ (.string ⟨#[]⟩)=W:=⟨_,rfl⟩
    have R6:=hid (show QX (fun k=>w.heap.size<k/\k ≠ b) W5 b nilL { stmt0 with kind:=17,table:=noStr } V6 by
     rw [<- hV6]
     have hl:=Q5.out.ls
     exact Q5.out.put HP.out 1 _ rfl ⟨hl.cols,hl.names,hl.row,hl.sets,hl.wher,hl.order⟩)
    go_wp2_with fail
    go_meet
    exact ⟨_,_,Made17.closed 17 (by decide),R6⟩
  by_cases k19:K=19
  · subst k19
    have f6:=free_of Q5.out.box 1
    have z6:=jC Q5.out.box 1
    simp only [stC,nilL,List.getElem?_toArray,List.getElem?_cons_zero,List.getElem?_cons_succ] at z6
    obtain ⟨V6,hV6⟩:∃ W,W5.setCell ⟨b,1,none⟩ (.string ⟨#[]⟩)=W:=⟨_,rfl⟩
    have R6:=hid (show QX (fun k=>w.heap.size<k/\k ≠ b) W5 b nilL { stmt0 with kind:=19,table:=noStr } V6 by
     rw [<- hV6]
     have hl:=Q5.out.ls
     exact Q5.out.put HP.out 1 _ rfl ⟨hl.cols,hl.names,hl.row,hl.sets,hl.wher,hl.order⟩)
    obtain ⟨jx,hjx,bjx⟩:=pick_nat l 3 (n:=4) (m:=4) rfl (by decide)
    have conjx:=pick_any (R6.out.arg (q:=fun k=>k ≠ b) (fun h=>h rfl) HL5a.out) 3 (by decide) 4 (by decide) (by decide)
    rw [hjx] at conjx
    clear hjx
    obtain ⟨x,hx,mx⟩:=nm4_at bjx
    have cx:=names_cell (R6.out.arg (q:=fun k=>k ≠ b) (fun h=>h rfl) HN5a.out).row.2.2.2 hx
    rw [Nat.zero_add] at cx
    have Mx:=hid mx
    clear hx mx
    have f7:=free_of R6.out.box 2
    have z7:=jC R6.out.box 2
    simp only [stC,nilL,List.getElem?_toArray,List.getElem?_cons_zero,List.getElem?_cons_succ] at z7
    obtain ⟨V7,hV7⟩:∃ W,V6.setCell ⟨b,2,none⟩ (.string x)=W:=⟨_,rfl⟩
    have R7:=hid (show QX (fun k=>w.heap.size<k/\k ≠ b) W5 b nilL { stmt0 with kind:=19,table:=noStr,name:=x } V7 by
     rw [<- hV7]
     have hl:=R6.out.ls
     exact R6.out.put HP.out 2 _ rfl ⟨hl.cols,hl.names,hl.row,hl.sets,hl.wher,hl.order⟩)
    obtain ⟨jn,hjn,bjn⟩:=pick_nat l 4 (n:=50) (m:=50) rfl (by decide)
    have conjn:=pick_any (R7.out.arg (q:=fun k=>k ≠ b) (fun h=>h rfl) HL5a.out) 4 (by decide) 50 (by decide) (by decide)
    rw [hjn] at conjn
    clear hjn
    have f8:=free_of R7.out.box 14
    have z8:=jC R7.out.box 14
    simp only [stC,nilL,List.getElem?_toArray,List.getElem?_cons_zero,List.getElem?_cons_succ] at z8
    obtain ⟨V8,hV8⟩:∃ W,V7.setCell ⟨b,14,none⟩ (.int .i64 (jn:Nat))=W:=⟨_,rfl⟩
    have R8:=hid (show QX (fun k=>w.heap.size<k/\k ≠ b) W5 b nilL { stmt0 with kind:=19,table:=noStr,name:=x,n:=(jn:Nat) } V8 by
     rw [<- hV8]
     have hl:=R7.out.ls
     exact R7.out.put HP.out 14 _ rfl ⟨hl.cols,hl.names,hl.row,hl.sets,hl.wher,hl.order⟩)
    go_wp2_with fail
    refine conjx.mono ?_
    rintro e w2 ⟨rfl,rfl⟩
    clear conjx
    go_wp2_with fail
    refine conjn.mono ?_
    rintro e w2 ⟨rfl,rfl⟩
    clear conjn
    go_wp2_with fail
    go_meet
    exact ⟨_,_,Made17.slot 19 x jn (by decide) Mx.out (by omega) (by omega),R8⟩
  by_cases k20:K=20
  · subst k20
    have f6:=free_of Q5.out.box 1
    have z6:=jC Q5.out.box 1
    simp only [stC,nilL,List.getElem?_toArray,List.getElem?_cons_zero,List.getElem?_cons_succ] at z6
    obtain ⟨V6,hV6⟩:∃ W,W5.setCell ⟨b,1,none⟩ (.string ⟨#[]⟩)=W:=⟨_,rfl⟩
    have R6:=hid (show QX (fun k=>w.heap.size<k/\k ≠ b) W5 b nilL { stmt0 with kind:=20,table:=noStr } V6 by
     rw [<- hV6]
     have hl:=Q5.out.ls
     exact Q5.out.put HP.out 1 _ rfl ⟨hl.cols,hl.names,hl.row,hl.sets,hl.wher,hl.order⟩)
    obtain ⟨jx,hjx,bjx⟩:=pick_nat l 3 (n:=4) (m:=4) rfl (by decide)
    have conjx:=pick_any (R6.out.arg (q:=fun k=>k ≠ b) (fun h=>h rfl) HL5a.out) 3 (by decide) 4 (by decide) (by decide)
    rw [hjx] at conjx
    clear hjx
    obtain ⟨x,hx,mx⟩:=nm4_at bjx
    have cx:=names_cell (R6.out.arg (q:=fun k=>k ≠ b) (fun h=>h rfl) HN5a.out).row.2.2.2 hx
    rw [Nat.zero_add] at cx
    have Mx:=hid mx
    clear hx mx
    have f7:=free_of R6.out.box 2
    have z7:=jC R6.out.box 2
    simp only [stC,nilL,List.getElem?_toArray,List.getElem?_cons_zero,List.getElem?_cons_succ] at z7
    obtain ⟨V7,hV7⟩:∃ W,V6.setCell ⟨b,2,none⟩ (.string x)=W:=⟨_,rfl⟩
    have R7:=hid (show QX (fun k=>w.heap.size<k/\k ≠ b) W5 b nilL { stmt0 with kind:=20,table:=noStr,name:=x } V7 by
     rw [<- hV7]
     have hl:=R6.out.ls
     exact R6.out.put HP.out 2 _ rfl ⟨hl.cols,hl.names,hl.row,hl.sets,hl.wher,hl.order⟩)
    obtain ⟨jn,hjn,bjn⟩:=pick_nat l 4 (n:=50) (m:=50) rfl (by decide)
    have conjn:=pick_any (R7.out.arg (q:=fun k=>k ≠ b) (fun h=>h rfl) HL5a.out) 4 (by decide) 50 (by decide) (by decide)
    rw [hjn] at conjn
    clear hjn
    have f8:=free_of R7.out.box 14
    have z8:=jC R7.out.box 14
    simp only [stC,nilL,List.getElem?_toArray,List.getElem?_cons_zero,List.getElem?_cons_succ] at z8
    obtain ⟨V8,hV8⟩:∃ W,V7.setCell ⟨b,14,none⟩ (.int .i64 (jn:Nat))=W:=⟨_,rfl⟩
    have R8:=hid (show QX (fun k=>w.heap.size<k/\k ≠ b) W5 b nilL { stmt0 with kind:=20,table:=noStr,name:=x,n:=(jn:Nat) } V8 by
     rw [<- hV8]
     have hl:=R7.out.ls
     exact R7.out.put HP.out 14 _ rfl ⟨hl.cols,hl.names,hl.row,hl.sets,hl.wher,hl.order⟩)
    go_wp2_with fail
    refine conjx.mono ?_
    rintro e w2 ⟨rfl,rfl⟩
    clear conjx
    go_wp2_with fail
    refine conjn.mono ?_
    rintro e w2 ⟨rfl,rfl⟩
    clear conjn
    go_wp2_with fail
    go_meet
    exact ⟨_,_,Made17.slot 20 x jn (by decide) Mx.out (by omega) (by omega),R8⟩
  by_cases k1:K=1
  · subst k1
    obtain ⟨i0,hi0,hz0,hz1,hz2⟩:=info_parts (show (Tryz.prog.info? 100).map (fun i=>(i.zero,i.size,i.bytes))=some (some (.agg #[.string ByteArray.empty,.int .i64 0]),2,24) by kernel_rfl)
    have hbW:b<W5.heap.size:=by omega
    have HN0:=hid (show RowAt strF (fun k=>k ≠ b) W5 (some ⟨w.heap.size+1,0,none⟩) nm4 from HN5a.out.row.2.2.2)
    go_wp2_with fail
    go_loopw [7] (fun x7 wr=>∃ (i:Nat) (cs:List (ByteArray × Int)) (v:Value),i<=n/\x7=.int .i64 i/\Hid (wr.heap[b]? = some (.cells (stC { nilL with cols:=v } { stmt0 with kind:=1,table:=T,cols:=cs }) 29 (0,0))/\W5.grownBy wr (some b))/\Hid (cs.length=i/\(∀ u ∈ cs,ColS u)/\wr.ownsRow W5.heap.size 100 2 v i (cs.flatMap colEnc))) (fun x7 _=>n - (intOf x7).toNat)
    case atStart=>exact ⟨0,[],.slice none 0 0,Nat.zero_le _,rfl,⟨Q5.out.box,grownBy_refl _ _⟩,rfl,nofun,World.ownsRow_nil _ _ _ _⟩
    case round =>
     obtain ⟨i,cs,v,hi,rfl,HB,HO⟩:=hrel
     obtain ⟨va,vc,rfl⟩:=owned_shape HO.out.2.2
     have hsz:=HB.out.2.size
     by_cases hlt:i<n
     · obtain ⟨x,hx,hxm⟩:=nm4_at (show i<4 by omega)
       obtain ⟨j,E1,hj⟩:=pick_nat l (3+(i:Int)).toNat (n:=2) (m:=2) rfl (by decide)
       have HX:=hid (show nm4[i]? = some x/\x ∈ nm4 from ⟨hx,hxm⟩)
       have E1:=hid E1
       clear hx hxm
       go_upto_region 13 with (fail)
       refine wp_region_loose2 [([0,1,2,3,4,5,6,7,8,9,10,11],12),([],13),([14],15)] (fun _=>True) (Below wr.heap.size wr) (by kernel_rfl) (by kernel_rfl) (by kernel_rfl) (fun w1 w2 h b=>h.trans (b.mono h.size)) (Below.drew b0R) ?_
       have TJ:=hid (show ∀ x,Below wr.heap.size wr x->x.heap[b]? = some (.cells (stC { nilL with cols:=.slice va i vc } { stmt0 with kind:=1,table:=T,cols:=cs }) 29 (0,0))/\W5.grownBy x (some b) from fun x h=>⟨(h.block _ (jB HB.out.1)).trans HB.out.1,grown_then HB.out.2 h⟩)
       apply wpSegs_cons (fun x=>x.heap[b]? = some (.cells (stC { nilL with cols:=.slice va i vc } { stmt0 with kind:=1,table:=T,cols:=cs }) 29 (0,0))/\W5.grownBy x (some b)) (NewOf 100 (colEnc (x,1+(j:Int))) wr) (fun _ _=>trivial) TJ.out
       case hq =>
        rintro w0 ⟨hb0,hg0⟩
        have ne:Nonempty (Wld (Below w0.heap.size w0)):=⟨⟨w0,Below.refl _ _⟩⟩
        have G0:=hid hg0
        have H0:=hid (show SlV intR (fun k=>k ≠ b) w0 (.slice al l.length cl) l from HL5a.out.keep fun k hk hlt=>G0.out.block k hlt (fun e=>hk (jI e)))
        have hN0:=names_cell (HN0.out.keep fun k hk hlt=>G0.out.block k hlt (fun e=>hk (jI e))) HX.out.1
        rw [Nat.zero_add] at hN0
        have y0:=fun z:Wld (Below w0.heap.size w0)=>(z.good.cell (p:=⟨w.heap.size+1,i,none⟩) (World.block_lt_of_cell? _ _ hN0)).trans hN0
        have y3:=fun z:Wld (Below w0.heap.size w0)=>jC ((z.good.block _ (jB hb0)).trans hb0) 3
        simp only [stC,nilL,List.getElem?_toArray,List.getElem?_cons_zero,List.getElem?_cons_succ] at y3
        clear hN0 hb0 hg0
        simp only [pickOps,List.getElem?_cons_zero,List.getElem?_cons_succ]
        apply quiet_hide
        intro KE hKE
        repeat (go_big_quiet_step ((go_at_call 37;(with_reducible refine Calls.mono (pick_at (H0.out.below (Wld.good _)) _ (by omega) (by omega) _ (by decide) (by decide)) ?_);rintro e w2 ⟨rfl,rfl⟩;exact ⟨congrArg (fun q=>Ending.returned (Value.int .i64 q)) E1.out,class_below _ b0R (jR _)⟩)))
        refine wpQuiet_nil ?_
        exact hKE _ rfl
       case ho=>rfl
       case hop=>rfl
       case hw=>kernel_rfl
       case hDJ=>exact (fun _ _ _ h=>TJ.out _ h.choose_spec.2.2)
       case hD=>exact fun u w1 w2 h hb=>h.below hb
       case hlo =>
        intro wa ba
        go_wp2_with fail
        exact ⟨wa.heap.size,rfl,heap_alloc_new _ _,ba.alloc ba.size _⟩
       case hrest =>
        rintro u w1 ⟨g,rfl,hg0,-⟩
        simp only [Act.put,List.setIfInBounds_toArray,List.set_cons_succ,List.set_cons_zero]
        refine wpSegs_cons0 (fun u w'=>(∃ a c,u=.slice a (i+1) c)/\(w'.heap[b]? = some (.cells (stC { nilL with cols:=.slice va i vc } { stmt0 with kind:=1,table:=T,cols:=cs }) 29 (0,0))/\W5.grownBy w' (some b))/\w'.ownsRow W5.heap.size 100 2 u (i+1) ((cs ++ [(x,1+(j:Int))]).flatMap colEnc)) ?sub3 rfl rfl ?want3 ?stable3 ?di3 ?lo3 ?on3
        case sub3=>exact fun _ h=>TJ.out _ h.choose_spec.2.2
        case want3=>kernel_rfl
        case stable3=>exact fun u w1 w2 h hb=>⟨h.1,⟨(hb.block _ (jB h.2.1.1)).trans h.2.1.1,grown_then h.2.1.2 hb⟩,owns_below h.2.2 hb⟩
        case di3=>exact fun _ _ _ h=>h.2.1
        case lo3 =>
         rintro wa ⟨g',e,h1,ba⟩
         obtain rfl:g=g':=by simpa using e
         clear e
         have oa:=owns_below HO.out.2.2 ba
         have hba:=(ba.block _ (jB HB.out.1)).trans HB.out.1
         have ga:=grown_then HB.out.2 ba
         refine wpList_append_own_at _ rfl _ _ 22 rfl W5.heap.size 100 i0 _ 2 24 Tryz.underlying22 hi0 hz0 hz1 hz2 rfl (by decide) (.slice va i vc) i _ rfl oa ⟨g,0,none⟩ 1 1 (colEnc (x,1+(j:Int))) rfl rfl (fun j u hj=>by rw [addr_add,jC h1];simpa using hj) (col_cells _) (by unfold maxLen;omega) (by omega) (Nat.le_trans hsz ba.size) ?_
         intro v1 w3 o1 g1 hx1 at1
         have hne:some b ≠ (Value.slice va i vc).ownBlock:=fun e=>by have:=(oa.lt b e.symm).1;omega
         refine wpList_nil ⟨rfl,v1,rfl,owned_shape o1,⟨(g1.block _ (jB hba) hne).trans hba,?_⟩,by rw [List.flatMap_append];simpa using o1⟩
         cases hv:(Value.slice va i vc).ownBlock with
         | none=>rw [hv] at g1;exact ga.trans ⟨g1.os,g1.tape,g1.output,g1.size,fun k hk _=>g1.block k hk (fun e=>nomatch e)⟩
         | some q=>rw [hv] at g1;exact grown_new ga (oa.lt q hv).1 g1
        case on3 =>
         rintro u3 w3 ⟨⟨a3,c3,rfl⟩,-,-⟩
         simp only [Act.put,List.setIfInBounds_toArray,List.set_cons_succ,List.set_cons_zero]
         apply wpSegs_cons (fun x=>x.heap[b]? = some (.cells (stC { nilL with cols:=.slice va i vc } { stmt0 with kind:=1,table:=T,cols:=cs }) 29 (0,0))/\W5.grownBy x (some b)) (fun _ w'=>(w'.heap[b]? = some (.cells (stC { nilL with cols:=.slice a3 (i+1) c3 } { stmt0 with kind:=1,table:=T,cols:=cs ++ [(x,1+(j:Int))] }) 29 (0,0))/\W5.grownBy w' (some b))/\w'.ownsRow W5.heap.size 100 2 (.slice a3 (i+1) c3) (i+1) ((cs ++ [(x,1+(j:Int))]).flatMap colEnc)) (fun _ h=>h) (fun _ h=>h.2.1)
         case hq =>
          rintro w0 -
          have ne:Nonempty (Wld (Below w0.heap.size w0)):=⟨⟨w0,Below.refl _ _⟩⟩
          simp only [pickOps,List.getElem?_cons_zero,List.getElem?_cons_succ]
          apply quiet_hide
          intro KE hKE
          repeat (go_big_quiet_step (fail))
          refine wpQuiet_nil ?_
          exact hKE _ rfl
         case ho=>rfl
         case hop=>rfl
         case hw=>kernel_rfl
         case hDJ=>exact fun h=>absurd rfl h
         case hD=>exact fun u w1 w2 h hb=>⟨⟨(hb.block _ (jB h.1.1)).trans h.1.1,grown_then h.1.2 hb⟩,owns_below h.2 hb⟩
         case hlo =>
          rintro wa ⟨-,⟨hba,ga⟩,oa⟩
          have e3:=jC hba 3
          have f3:=free_of hba 3
          simp only [stC,nilL,List.getElem?_toArray,List.getElem?_cons_zero,List.getElem?_cons_succ] at e3
          have HBA:=hid hba
          have HGA:=hid ga
          have HOA:=hid oa
          clear hba ga oa
          go_wp2_with fail
          refine ⟨⟨by have h9:=heap_setCell_same _ _ 3 _ _ (.slice a3 (i+1) c3) HBA.out;exact h9,HGA.out.trans (grow_set1 _ _ _ _)⟩,by have h9:=ownsRow_setCell_below HOA.out (a:=⟨b,3,none⟩) hbW (.slice a3 (i+1) c3);simpa using h9⟩
         case hrest =>
          rintro u4 w4 -
          simp only [Act.put,List.setIfInBounds_toArray,List.set_cons_succ,List.set_cons_zero]
          refine wpSegs_nil ?_
          intro w' h
          have H1:=hid h.1
          have H2:=hid h.2
          clear h
          go_wp2_with fail
          go_roundw
          case rel=>exact ⟨i+1,_,_,by omega,by go_num,H1,by simp [HO.out.1],fun u hu=>(by
           rcases List.mem_append.1 hu with hu|hu
           · exact HO.out.2.1 u hu
           · rw [List.mem_singleton] at hu
             rw [hu]
             exact ⟨HX.out.2,by show 1+(j:Int)=1 \/ 1+(j:Int)=2;omega⟩),H2.out⟩
          case measure=>simp [intOf];omega
     · have hin:i=n:=by omega
       have hlen:=HO.out.1
       go_wp2_with fail
       go_meet
       have hl:=Q5.out.ls
       refine ⟨_,_,Made17.table T cs HT.out (fun e=>by rw [e] at hlen;simp at hlen;omega) (by omega) HO.out.2.1,⟨HB.out.1,?_,HB.out.2⟩⟩
       have SL:=sl_owned (enc:=colEnc) (sz:=2) (hl:=fun _=>rfl) (L:=cs) (by rw [hlen];exact HO.out.2.2) (by omega)
       refine ⟨?_,(nil_read _ wr).names,(nil_read _ wr).row,(nil_read _ wr).sets,(nil_read _ wr).wher,(nil_read _ wr).order⟩
       exact SL.weaken fun k hk=>(by omega)
  by_cases k2:K=2
  · subst k2
    obtain ⟨Z,hZ⟩:∃ Z,Z=nm4.take n:=⟨_,rfl⟩
    have hZl:n=Z.length:=by rw [hZ,List.length_take];simp [nm4];omega
    have HZ:=hid (show (∀ u ∈ Z,u ∈ nm4)/\Z=nm4.take Z.length from ⟨by rw [hZ];exact nm4_take,by rw [<- hZl];exact hZ⟩)
    clear hZ
    subst hZl
    obtain ⟨i0,hi0,hz0,hz1,hz2⟩:=info_parts (show (Tryz.prog.info? 9).map (fun i=>(i.zero,i.size,i.bytes))=some (some (.string ByteArray.empty),1,16) by kernel_rfl)
    obtain ⟨jx,hjx,bjx⟩:=pick_nat l 3 (n:=4) (m:=4) rfl (by decide)
    have conjx:=pick_any (Q5.out.arg (q:=fun k=>k ≠ b) (fun h=>h rfl) HL5a.out) 3 (by decide) 4 (by decide) (by decide)
    rw [hjx] at conjx
    clear hjx
    obtain ⟨x,hx,mx⟩:=nm4_at bjx
    have cx:=names_cell (Q5.out.arg (q:=fun k=>k ≠ b) (fun h=>h rfl) HN5a.out).row.2.2.2 hx
    rw [Nat.zero_add] at cx
    have Mx:=hid mx
    clear hx mx
    have f6:=free_of Q5.out.box 2
    have z6:=jC Q5.out.box 2
    simp only [stC,nilL,List.getElem?_toArray,List.getElem?_cons_zero,List.getElem?_cons_succ] at z6
    obtain ⟨V6,hV6⟩:∃ W,W5.setCell ⟨b,2,none⟩ (.string x)=W:=⟨_,rfl⟩
    have R6:=hid (show QX (fun k=>w.heap.size<k/\k ≠ b) W5 b nilL { stmt0 with kind:=2,table:=T,name:=x } V6 by
     rw [<- hV6]
     have hl:=Q5.out.ls
     exact Q5.out.put HP.out 2 _ rfl ⟨hl.cols,hl.names,hl.row,hl.sets,hl.wher,hl.order⟩)
    go_wp2_with fail
    refine conjx.mono ?_
    rintro e w2 ⟨rfl,rfl⟩
    clear conjx
    go_upto_region 16 with (fail)
    refine wp_region_class_tail 5 (Below V6.heap.size V6) (by kernel_rfl) (by kernel_rfl) (Below.drew b0R) (fun ne=>?_)
    have y4:=fun x:Wld (Below V6.heap.size V6)=>jC ((x.good.block _ (jB R6.out.box)).trans R6.out.box) 4
    simp only [stC,nilL,List.getElem?_toArray,List.getElem?_cons_zero,List.getElem?_cons_succ] at y4
    simp only [List.take_succ_cons,List.take_zero,List.drop_succ_cons,List.drop_zero]
    repeat (go_big_quiet_step (fail))
    refine wpQuiet_nil ?_
    intro w4 b4
    have Q4:=hid (R6.out.below b4)
    have hs4:=Q4.out.g.size
    have hrow:=hid (show RowAt strF (fun k=>k ≠ b) w4 (some ⟨w.heap.size+1,0,none⟩) Z from by rw [HZ.out.2];exact row_take (Q4.out.arg (q:=fun k=>k ≠ b) (fun h=>h rfl) HN5a.out).row.2.2.2 _)
    clear b4 y4
    go_wp2_with (at_builtin;go_loud (refine wpList_append_flat_at rfl _ _ 23 rfl w4.heap.size 9 i0 _ 1 16 Tryz.underlying23 hi0 hz0 hz1 hz2 rfl (by decide) (.slice none 0 0) 0 _ rfl (World.ownsRow_nil _ _ _ _) (hl:=fun _=>rfl) Z _ _ rfl hrow.out (str_cells _) (by unfold maxLen;omega) (by omega) (jR _) ?_;intro v' w5 o5 g5 at5;clear at5;rw [Nat.zero_add,List.nil_append] at o5;obtain ⟨va5,vc5,rfl⟩:=owned_shape o5;have Q9:=hid (Q4.out.below ((Below.refl w4.heap.size w4).grown g5 (jR _) (fun q e=>nomatch e)));have SL:=hid (show SlV strF (fun k=>w.heap.size<k/\k ≠ b) w5 (.slice va5 Z.length vc5) Z from (sl_owned o5 (by omega)).weaken fun k hk=>(by omega));have f5:=free_of Q9.out.box 4;have z5:=jC Q9.out.box 4;simp only [stC,nilL,List.getElem?_toArray,List.getElem?_cons_zero,List.getElem?_cons_succ] at z5;clear o5 g5))
    go_meet
    have hl:=Q9.out.ls
    exact ⟨_,_,Made17.index T x Z HT.out Mx.out (fun e=>by rw [e] at hnb;simp at hnb) hnb.2 HZ.out.1,Q9.out.put (L':={ nilL with names:=.slice va5 Z.length vc5 }) (s':={ stmt0 with kind:=2,table:=T,name:=x,names:=Z }) HP.out 4 _ rfl ⟨hl.cols,SL.out,hl.row,hl.sets,hl.wher,hl.order⟩⟩
  by_cases k5:K=5
  · subst k5
    obtain ⟨i0,hi0,hz0,hz1,hz2⟩:=info_parts (show (Tryz.prog.info? 96).map (fun i=>(i.zero,i.size,i.bytes))=some (some (.agg #[.string ByteArray.empty,.string ByteArray.empty,.int .i64 0,.int .i64 0,.string ByteArray.empty]),5,64) by kernel_rfl)
    have hbW:b<W5.heap.size:=by omega
    obtain ⟨rb,ro,rfl,-,hrb⟩:=HR5.out.row.2.2.2.addr (by intro e;have:=HRR.out.1;rw [e] at this;simp at this)
    have HN0:=hid (show RowAt strF (fun k=>k ≠ b) W5 (some ⟨w.heap.size+1,0,none⟩) nm4 from HN5a.out.row.2.2.2)
    have HR0:=hid (show RowAt valR (fun k=>k ≠ b) W5 (some ⟨rb,ro,none⟩) r from HR5a.out.row.2.2.2)
    go_wp2_with fail
    go_loopw [8] (fun x8 wr=>∃ (i:Nat) (cs:List SetV) (v:Value),i<=n/\x8=.int .i64 i/\Hid (wr.heap[b]? = some (.cells (stC { nilL with sets:=v } { stmt0 with kind:=5,table:=T,sets:=cs }) 29 (0,0))/\W5.grownBy wr (some b))/\Hid (cs.length=i/\(∀ u ∈ cs,SetS u)/\wr.ownsRow W5.heap.size 96 5 v i (cs.flatMap setEnc))) (fun x8 _=>n - (intOf x8).toNat)
    case atStart=>exact ⟨0,[],.slice none 0 0,Nat.zero_le _,rfl,⟨Q5.out.box,grownBy_refl _ _⟩,rfl,nofun,World.ownsRow_nil _ _ _ _⟩
    case round =>
     obtain ⟨i,cs,v,hi,rfl,HB,HO⟩:=hrel
     obtain ⟨va,vc,rfl⟩:=owned_shape HO.out.2.2
     have hsz:=HB.out.2.size
     by_cases hlt:i<n
     · obtain ⟨j,E1,hj⟩:=pick_nat l (3+(i:Int)).toNat (n:=4) (m:=4) rfl (by decide)
       obtain ⟨x,hx,hxm⟩:=nm4_at hj
       have hir:i<r.length:=by rw [HRR.out.1];omega
       obtain ⟨⟨rk,rn,rs⟩,hu⟩:∃ u,r[i]=u:=⟨_,rfl⟩
       have HU:=hid (show ValS ⟨rk,rn,rs⟩ by rw [<- hu];exact HRR.out.2 _ (List.getElem_mem _))
       have HX:=hid (show nm4[j]? = some x/\x ∈ nm4 from ⟨hx,hxm⟩)
       have E1:=hid E1
       have HRV:=hid (show ∀ z,W5.grownBy z (some b)->z.cell? ⟨rb,ro+i * 3,none⟩=some (.int .i64 rk)/\z.cell? ⟨rb,ro+i * 3+1,none⟩=some (.int .i64 rn)/\z.cell? ⟨rb,ro+i * 3+2,none⟩=some (.string rs) from fun z hz=>by
        have h9:=(HR0.out.keep fun k hk hlt=>hz.block k hlt (fun e=>hk (jI e))).val i hir
        rw [hu] at h9
        exact h9)
       have HNV:=hid (show ∀ (j:Nat) (x:ByteArray) z,nm4[j]? = some x->W5.grownBy z (some b)->z.cell? ⟨w.heap.size+1,j,none⟩=some (.string x) from fun j x z hj hz=>by
        have h9:=names_cell (HN0.out.keep fun k hk hlt=>hz.block k hlt (fun e=>hk (jI e))) hj
        rw [Nat.zero_add] at h9
        exact h9)
       have HLV:=hid (show ∀ z,W5.grownBy z (some b)->SlV intR (fun k=>k ≠ b) z (.slice al l.length cl) l from fun z hz=>HL5a.out.keep fun k hk hlt=>hz.block k hlt (fun e=>hk (jI e)))
       clear hx hxm hu hir
       go_upto_region 26 with (fail)
       refine wp_region_loose2 [([0,1,2,3,4,5,6,7,8,9,10,11],12),([],13)] (Below wr.heap.size wr) (Below wr.heap.size wr) (by kernel_rfl) (by kernel_rfl) (by kernel_rfl) (fun w1 w2 h b=>h.trans (b.mono h.size)) (Below.drew b0R) ?_
       apply wpSegs_cons (Below wr.heap.size wr) (NewSB wr) (fun _ h=>h) (fun _ h=>h)
       case hq =>
        intro w0 hw0
        have ne:Nonempty (Wld (Below w0.heap.size w0)):=⟨⟨w0,Below.refl _ _⟩⟩
        have H0:=hid (HLV.out _ (grown_then HB.out.2 hw0))
        have HZ:=hid (show ∀ z:Wld (Below w0.heap.size w0),W5.grownBy z.val (some b) from fun z=>grown_then (grown_then HB.out.2 hw0) z.good)
        have y0:=fun z:Wld (Below w0.heap.size w0)=>HNV.out j x z.val HX.out.1 (HZ.out z)
        have y1:=fun z:Wld (Below w0.heap.size w0)=>(HRV.out z.val (HZ.out z)).1
        have y2:=fun z:Wld (Below w0.heap.size w0)=>(HRV.out z.val (HZ.out z)).2.1
        have y3:=fun z:Wld (Below w0.heap.size w0)=>(HRV.out z.val (HZ.out z)).2.2
        simp only [pickOps,List.getElem?_cons_zero,List.getElem?_cons_succ]
        apply quiet_hide
        intro KE hKE
        repeat (go_big_quiet_step ((go_at_call 37;(with_reducible refine Calls.mono (pick_at (H0.out.below (Wld.good _)) _ (by omega) (by omega) _ (by decide) (by decide)) ?_);rintro e w2 ⟨rfl,rfl⟩;exact ⟨congrArg (fun q=>Ending.returned (Value.int .i64 q)) E1.out,class_below _ b0R (jR _)⟩)))
        refine wpQuiet_nil ?_
        exact hKE _ rfl
       case ho=>rfl
       case hop=>rfl
       case hw=>kernel_rfl
       case hDJ=>exact (fun _ _ _ h=>h.choose_spec.2.2.2)
       case hD =>
        rintro u w1 w2 ⟨g,h1,h2,h3,h4⟩ hb
        exact ⟨g,h1,h2,(hb.block _ (jB h3)).trans h3,h4.trans (hb.mono h4.size)⟩
       case hlo =>
        intro wa ba
        go_wp2_with fail
        exact ⟨wa.heap.size,rfl,ba.size,heap_alloc_new _ _,ba.alloc ba.size _⟩
       case hrest =>
        rintro u w1 ⟨g,rfl,hg0,-,-⟩
        simp only [Act.put,List.setIfInBounds_toArray,List.set_cons_succ,List.set_cons_zero]
        refine wpSegs_cons0 (fun _ w'=>SB wr g ⟨x,⟨#[]⟩,⟨rk,rn,rs⟩⟩ w') ?sub3 rfl rfl ?want3 ?stable3 ?di3 ?lo3 ?on3
        case sub3=>exact fun _ h=>h.choose_spec.2.2.2
        case want3=>kernel_rfl
        case stable3=>exact fun u w1 w2 h hb=>⟨(hb.block _ (jB h.1)).trans h.1,h.2.trans (hb.mono h.2.size)⟩
        case di3=>exact fun h=>absurd rfl h
        case lo3 =>
         rintro wa ⟨g',e,h1,h2,ba⟩
         obtain rfl:g=g':=by simpa using e
         clear e
         refine wpList_store_row rfl 96 _ _ rfl g #[.string x,.string ⟨#[]⟩,.int .i64 rk,.int .i64 rn,.string rs] rfl rfl 96 _ h2 (by kernel_rfl) rfl (Array.all_eq_true_iff_forall_mem.2 fun v hv=>set_cells ⟨x,⟨#[]⟩,⟨rk,rn,rs⟩⟩ v (by simpa [setEnc] using hv)) ?_
         exact wpList_nil ⟨rfl,undef,rfl,setRow_heap _ _ _ _ _ _ h2,below_setRow ba h1 _⟩
        case on3 =>
         rintro u3 w3 -
         simp only [Act.put,List.setIfInBounds_toArray,List.set_cons_succ,List.set_cons_zero]
         refine wpSegs_nil ?_
         intro w6 h6
         have HG:=hid (show w6.heap[g]? = some (.cells #[.string x,.string ⟨#[]⟩,.int .i64 rk,.int .i64 rn,.string rs] 96 (0,0)) from h6.1)
         have HBW:=hid h6.2
         clear h6
         have g6:=hid (grown_then HB.out.2 HBW.out)
         obtain ⟨k6,E6,hk6⟩:=pick_nat l (6+i) (n:=3) (m:=3) rfl (by decide)
         have con6:=pick_any (HLV.out _ g6.out) (6+i) (by omega) 3 (by decide) (by decide)
         rw [E6] at con6
         clear E6
         have c6:((6+i:Nat):Int)=6+(i:Int):=by omega
         rw [c6] at con6
         clear c6
         go_wp2_with fail
         refine con6.mono ?_
         rintro e w2 ⟨rfl,rfl⟩
         clear con6
         go_upto_if 115 with (fail)
         go_cut [9] from 111 to 130 (fun x9 wx=>x9=.pointer (some ⟨g,0,none⟩)/\∃ y:SetV,Hid (SetS y/\wx.heap[g]? = some (.cells (setEnc y).toArray 96 (0,0)))/\Hid (Below wr.heap.size wr wx))
         case first =>
          by_cases hj1:k6=1
          · have e1:((k6:Int) == 1)=true:=by simpa using (show (k6:Int)=1 by omega)
            have e1':(k6 == 1)=true:=by simpa using hj1
            obtain ⟨k4,E4,hk4⟩:=pick_nat l (4+i) (n:=4) (m:=4) rfl (by decide)
            obtain ⟨x4,hx4,hxm4⟩:=nm4_at hk4
            have con4:=pick_any (HLV.out _ g6.out) (4+i) (by omega) 4 (by decide) (by decide)
            rw [E4] at con4
            have c4:((4+i:Nat):Int)=4+(i:Int):=by omega
            rw [c4] at con4
            have cx4:=HNV.out k4 x4 _ hx4 g6.out
            have HM4:=hid hxm4
            have e9:=jC HG.out 1
            have f9:=free_of HG.out 1
            simp only [gT,gZ,gS] at e9
            obtain ⟨V7,hV7⟩:∃ W,w6.setCell ⟨g,1,none⟩ (.string x4)=W:=⟨_,rfl⟩
            have HG7:=hid (show V7.heap[g]? = some (.cells #[.string x,.string x4,.int .i64 rk,.int .i64 rn,.string rs] 96 (0,0)) by rw [<- hV7];exact heap_setCell_same _ _ 1 _ _ _ HG.out)
            have HB7:=hid (show Below wr.heap.size wr V7 by rw [<- hV7];exact HBW.out.setCell (p:=⟨g,1,none⟩) hg0 _)
            obtain ⟨k5,E5,hk5⟩:=pick_nat l (5+i) (n:=9) (m:=9) rfl (by decide)
            have con5:=pick_any (HLV.out _ (grown_then HB.out.2 HB7.out)) (5+i) (by omega) 9 (by decide) (by decide)
            rw [E5] at con5
            have c5:((5+i:Nat):Int)=5+(i:Int):=by omega
            rw [c5] at con5
            have e72:=jC HG7.out 2
            have e73:=jC HG7.out 3
            have e74:=jC HG7.out 4
            have f72:=free_of HG7.out 2
            have f73:=free_of HG7.out 3
            have f74:=free_of HG7.out 4
            simp only [gT,gZ,gS] at e72 e73 e74
            clear hj1 E4 E5 c4 c5 hx4 hxm4
            go_wp2_with fail
            refine con4.mono ?_
            rintro e w2 ⟨rfl,rfl⟩
            clear con4
            go_wp2_with fail
            refine con5.mono ?_
            rintro e w2 ⟨rfl,rfl⟩
            clear con5
            go_wp2_with fail
            go_meet
            have h9:=set3 HG7.out HB7.out hg0 (.int .i64 1) (.int .i64 ((k5:Int) - 4)) (.string ⟨#[]⟩)
            exact ⟨rfl,⟨x,x4,⟨1,(k5:Int) - 4,⟨#[]⟩⟩⟩,⟨⟨HX.out.2,⟨⟨Or.inr (Or.inl rfl),by show _<=(k5:Int) - 4;omega,by show (k5:Int) - 4<=_;omega,Nat.zero_le _⟩,fun h=>absurd rfl h,fun _=>rfl⟩,Or.inr ⟨HM4.out,rfl⟩⟩,h9.1⟩,h9.2⟩
          · have e1:((k6:Int) == 1)=false:=by simpa using (show ¬ (k6:Int)=1 by omega)
            have e1':(k6 == 1)=false:=by simpa using hj1
            clear hj1
            go_wp2_with fail
            go_meet
            exact ⟨rfl,⟨x,⟨#[]⟩,⟨rk,rn,rs⟩⟩,⟨⟨HX.out.2,HU.out,Or.inl rfl⟩,HG.out⟩,HBW⟩
         case rest =>
         obtain ⟨rfl,⟨yc,y2,yk,yn,ys⟩,HY,HBX⟩:=hcut
         clear HG HBW g6 hk6
         have gx:=hid (grown_then HB.out.2 HBX.out)
         have hbx:=hid ((HBX.out.block _ (jB HB.out.1)).trans HB.out.1)
         have ox:=hid (owns_below HO.out.2.2 HBX.out)
         have hsx:=HBX.out.size
         have e0:=jC HY.out.2 0
         have e1:=jC HY.out.2 1
         have e2:=jC HY.out.2 2
         have e3:=jC HY.out.2 3
         have e4:=jC HY.out.2 4
         have z6:=jC hbx.out 6
         simp only [stC,nilL,setEnc,List.getElem?_toArray,List.getElem?_cons_zero,List.getElem?_cons_succ] at e0 e1 e2 e3 e4 z6
         obtain ⟨W7,hW7⟩:∃ W,wc.alloc (.cells #[.string yc,.string y2,.int .i64 yk,.int .i64 yn,.string ys] 96)=W:=⟨_,rfl⟩
         have b7:Below wc.heap.size wc W7:=by rw [<- hW7];exact (b0R).alloc (jR _) _
         have h7:W7.heap[wc.heap.size]? = some (.cells #[.string yc,.string y2,.int .i64 yk,.int .i64 yn,.string ys] 96 (0,0)):=by rw [<- hW7];exact heap_alloc_new _ _
         have ox7:=hid (owns_below ox.out b7)
         have gx7:=hid (grown_then gx.out b7)
         have hb7:=cy b7 hbx
         have hn7:=hid (show ∀ (j:Nat) u,(setEnc ⟨yc,y2,⟨yk,yn,ys⟩⟩)[j]? = some u->W7.cell? ((⟨wc.heap.size,0,none⟩:Addr).add j)=some u from fun j u hj=>by rw [addr_add,jC h7];simpa [setEnc] using hj)
         have hs7:W5.heap.size<=W7.heap.size:=Nat.le_trans (Nat.le_trans hsz hsx) b7.size
         have hlen7:i+1<=maxLen:=by unfold maxLen;omega
         have hbyt7:(i+1) * 64<=140737488355328:=by omega
         clear b7 h7
         go_wp2_with (at_builtin;go_loud (refine wpList_append_own_at _ rfl _ _ 26 rfl W5.heap.size 96 i0 _ 5 64 Tryz.underlying26 hi0 hz0 hz1 hz2 rfl (by decide) (.slice va i vc) i _ rfl ox7.out ⟨wc.heap.size,0,none⟩ 1 1 (setEnc ⟨yc,y2,⟨yk,yn,ys⟩⟩) rfl rfl hn7.out (set_cells _) hlen7 hbyt7 hs7 ?_;intro v' w5 o5 g5 hx5 at5;clear hx5 at5;obtain ⟨va5,vc5,rfl⟩:=owned_shape o5;have ga:=hid (own_grow gx7.out ox7.out g5);have hb5:=hid ((g5.block b (jB hb7.out) (own_not ox7.out hbW)).trans hb7.out);have O5:=hid o5;have f5:=free_of hb5.out 6;have z5:=jC hb5.out 6;simp only [stC,nilL,List.getElem?_toArray,List.getElem?_cons_zero,List.getElem?_cons_succ] at z5;clear o5 g5))
         go_roundw
         case rel =>
          refine ⟨i+1,cs ++ [⟨yc,y2,⟨yk,yn,ys⟩⟩],.slice va5 (i+1) vc5,by omega,by go_num,⟨(by have h9:=heap_setCell_same _ _ 6 _ _ (.slice va5 (i+1) vc5) hb5.out;exact h9),ga.out.trans (grow_set1 _ _ _ _)⟩,by simp [HO.out.1],fun u hu=>?_,?_⟩
          · rcases List.mem_append.1 hu with hu|hu
            · exact HO.out.2.1 u hu
            · rw [List.mem_singleton] at hu
              rw [hu]
              exact HY.out.1
          · have h9:=ownsRow_setCell_below O5.out (a:=⟨b,6,none⟩) hbW (.slice va5 (i+1) vc5)
            simpa [List.flatMap_append] using h9
         case measure=>simp [intOf];omega
     · have hin:i=n:=by omega
       have hlen:=HO.out.1
       have SL:=hid (sl_owned (enc:=setEnc) (sz:=5) (hl:=fun _=>rfl) (L:=cs) (by rw [hlen];exact HO.out.2.2) (by omega))
       have QL:=hid (show QX (fun k=>w.heap.size<k/\k ≠ b) W5 b { nilL with sets:=.slice va i vc } { stmt0 with kind:=5,table:=T,sets:=cs } wr from by
        refine ⟨HB.out.1,⟨(nil_read _ wr).cols,(nil_read _ wr).names,(nil_read _ wr).row,?_,(nil_read _ wr).wher,(nil_read _ wr).order⟩,HB.out.2⟩
        exact SL.out.weaken fun k hk=>(by omega))
       go_wp2_with fail
       have con:=conds_any (QL.out.arg (q:=fun k=>k ≠ b) (fun h=>h rfl) HL5a.out) (QL.out.arg (q:=fun k=>k ≠ b) (fun h=>h rfl) HN5a.out) (QL.out.arg (q:=fun k=>k ≠ b) (fun h=>h rfl) HR5a.out) HRR.out.1 HRR.out.2
       refine con.mono ?_
       rintro e w8 ⟨⟨cw,v8,rfl,hc3,hcs,o8⟩,b8⟩
       obtain ⟨va8,vc8,rfl⟩:=owned_shape o8
       have hs8:=QL.out.g.size
       have R8:=hid (QL.out.below b8)
       have SL8:=hid (show SlV condR (fun k=>w.heap.size<k/\k ≠ b) w8 (.slice va8 cw.length vc8) cw from (sl_owned o8 (by omega)).weaken fun k hk=>by omega)
       have HC:=hid (And.intro hc3 hcs)
       clear con o8 b8 hc3 hcs
       have f9:=free_of R8.out.box 7
       have z9:=jC R8.out.box 7
       simp only [stC,nilL,List.getElem?_toArray,List.getElem?_cons_zero,List.getElem?_cons_succ] at z9
       obtain ⟨V9,hV9⟩:∃ W,w8.setCell ⟨b,7,none⟩ (.slice va8 cw.length vc8)=W:=⟨_,rfl⟩
       have R9:=hid (show QX (fun k=>w.heap.size<k/\k ≠ b) W5 b { { nilL with sets:=.slice va i vc } with wher:=.slice va8 cw.length vc8 } { stmt0 with kind:=5,table:=T,sets:=cs,wher:=cw } V9 by
        rw [<- hV9]
        have hl:=R8.out.ls
        exact R8.out.put HP.out 7 _ rfl ⟨hl.cols,hl.names,hl.row,hl.sets,SL8.out,hl.order⟩)
       go_wp2_with fail
       go_meet
       exact ⟨_,_,Made17.update T cs cw HT.out (fun e=>by rw [e] at hlen;simp at hlen;omega) (by omega) HO.out.2.1 HC.out.1 HC.out.2,R9⟩
  have HKD:=hid (show K=11 \/ K=12 \/ K=13 \/ K=14 \/ K=15 \/ K=18 by omega)
  have e1:(K == 1)=false:=by simpa using k1
  have e2:(K == 2)=false:=by simpa using k2
  have e3:(K == 3)=false:=by simpa using k3
  have e4:(K == 4)=false:=by simpa using k4
  have e5:(K == 5)=false:=by simpa using k5
  have e6:(K == 6)=false:=by simpa using k6
  have e7:(K == 7)=false:=by simpa using k7
  have e8:(K == 8)=false:=by simpa using k8
  have e9:(K == 9)=false:=by simpa using k9
  have e10:(K == 10)=false:=by simpa using k10
  have e16:(K == 16)=false:=by simpa using k16
  have e17:(K == 17)=false:=by simpa using k17
  have e19:(K == 19)=false:=by simpa using k19
  have e20:(K == 20)=false:=by simpa using k20
  clear k1 k2 k3 k4 k5 k6 k7 k8 k9 k10 k16 k17 k19 k20
  have f6:=free_of Q5.out.box 1
  have z6:=jC Q5.out.box 1
  simp only [stC,nilL,List.getElem?_toArray,List.getElem?_cons_zero,List.getElem?_cons_succ] at z6
  obtain ⟨V6,hV6⟩:∃ W,W5.setCell ⟨b,1,none⟩ (.string ⟨#[]⟩)=W:=⟨_,rfl⟩
  have R6:=hid (show QX (fun k=>w.heap.size<k/\k ≠ b) W5 b nilL { stmt0 with kind:=K,table:=noStr } V6 by
   rw [<- hV6]
   have hl:=Q5.out.ls
   exact Q5.out.put HP.out 1 _ rfl ⟨hl.cols,hl.names,hl.row,hl.sets,hl.wher,hl.order⟩)
  obtain ⟨jx,hjx,bjx⟩:=pick_nat l 3 (n:=4) (m:=4) rfl (by decide)
  have conjx:=pick_any (R6.out.arg (q:=fun k=>k ≠ b) (fun h=>h rfl) HL5a.out) 3 (by decide) 4 (by decide) (by decide)
  rw [hjx] at conjx
  clear hjx
  obtain ⟨x,hx,mx⟩:=nm4_at bjx
  have cx:=names_cell (R6.out.arg (q:=fun k=>k ≠ b) (fun h=>h rfl) HN5a.out).row.2.2.2 hx
  rw [Nat.zero_add] at cx
  have Mx:=hid mx
  clear hx mx
  have f7:=free_of R6.out.box 2
  have z7:=jC R6.out.box 2
  simp only [stC,nilL,List.getElem?_toArray,List.getElem?_cons_zero,List.getElem?_cons_succ] at z7
  obtain ⟨V7,hV7⟩:∃ W,V6.setCell ⟨b,2,none⟩ (.string x)=W:=⟨_,rfl⟩
  have R7:=hid (show QX (fun k=>w.heap.size<k/\k ≠ b) W5 b nilL { stmt0 with kind:=K,table:=noStr,name:=x } V7 by
   rw [<- hV7]
   have hl:=R6.out.ls
   exact R6.out.put HP.out 2 _ rfl ⟨hl.cols,hl.names,hl.row,hl.sets,hl.wher,hl.order⟩)
  go_wp2_with fail
  refine conjx.mono ?_
  rintro e w2 ⟨rfl,rfl⟩
  clear conjx
  go_wp2_with fail
  go_meet
  exact ⟨_,_,Made17.named K x (by have:=HKD.out;omega) Mx.out,R7⟩
 case rest =>
 obtain ⟨L,s,HM,HX⟩:=hcut
 have hs9:=HX.out.g.size
 have hl:=HX.out.ls
 obtain ⟨⟨d0,d00,e1⟩,⟨d1,d11,e2⟩,⟨d2,d22,e3⟩,⟨d3,d33,e4⟩,⟨d4,d44,e5⟩,⟨d5,d55,e6⟩⟩:=hl.shapes
 obtain ⟨Lc,Ln,Lr,Ls,Lw,Lo⟩:=L
 simp only at e1 e2 e3 e4 e5 e6
 subst e1 e2 e3 e4 e5 e6
 obtain ⟨tk,ttb,tnm,tcols,tnames,trow,tsets,twher,tj,tl,tr,ta,torder,tm,tn⟩:=s
 have hR9:wc.heap[w.heap.size]? = some (.cells (stC nilL stmt0) 29 (0,0)):=(HX.out.g.block _ (by omega) (fun e=>by simp at e;omega)).trans ((G5.out.block _ (by omega) (fun e=>by simp at e;omega)).trans HRN2.out.1)
 have HRc:=hid hR9
 have HBW:=hid ((HB2.out.grown G5.out HB2.out.size fun q e=>by cases e;omega).grown HX.out.g (by omega) fun q e=>by cases e;omega)
 have HB9:=hid HX.out.box
 have y0:=jC HB9.out 0
 have k0:=jC HRc.out 0
 have f0:=free_of HRc.out 0
 have y1:=jC HB9.out 1
 have k1:=jC HRc.out 1
 have f1:=free_of HRc.out 1
 have y2:=jC HB9.out 2
 have k2:=jC HRc.out 2
 have f2:=free_of HRc.out 2
 have y3:=jC HB9.out 3
 have k3:=jC HRc.out 3
 have f3:=free_of HRc.out 3
 have y4:=jC HB9.out 4
 have k4:=jC HRc.out 4
 have f4:=free_of HRc.out 4
 have y5:=jC HB9.out 5
 have k5:=jC HRc.out 5
 have f5:=free_of HRc.out 5
 have y6:=jC HB9.out 6
 have k6:=jC HRc.out 6
 have f6:=free_of HRc.out 6
 have y7:=jC HB9.out 7
 have k7:=jC HRc.out 7
 have f7:=free_of HRc.out 7
 have y8:=jC HB9.out 8
 have k8:=jC HRc.out 8
 have f8:=free_of HRc.out 8
 have y9:=jC HB9.out 9
 have k9:=jC HRc.out 9
 have f9:=free_of HRc.out 9
 have y10:=jC HB9.out 10
 have k10:=jC HRc.out 10
 have f10:=free_of HRc.out 10
 have y11:=jC HB9.out 11
 have k11:=jC HRc.out 11
 have f11:=free_of HRc.out 11
 have y12:=jC HB9.out 12
 have k12:=jC HRc.out 12
 have f12:=free_of HRc.out 12
 have y13:=jC HB9.out 13
 have k13:=jC HRc.out 13
 have f13:=free_of HRc.out 13
 have y14:=jC HB9.out 14
 have k14:=jC HRc.out 14
 have f14:=free_of HRc.out 14
 simp only [stC,nilL,stmt0,List.getElem?_toArray,List.getElem?_cons_zero,List.getElem?_cons_succ] at y0 k0 y1 k1 y2 k2 y3 k3 y4 k4 y5 k5 y6 k6 y7 k7 y8 k8 y9 k9 y10 k10 y11 k11 y12 k12 y13 k13 y14 k14
 clear hl hR9 HRN2 HL5 HN5 HR5 HL5a HN5a HR5a HRR Q5 G5 HB2
 go_wp2_with fail
 have ts9:=st_set HRc.out (.int .i64 tk) (.string ttb) (.string tnm) (.slice d0 tcols.length d00) (.slice d1 tnames.length d11) (.slice d2 trow.length d22) (.slice d3 tsets.length d33) (.slice d4 twher.length d44) (.string tj) (.string tl) (.string tr) (.int .i64 ta) (.slice d5 torder.length d55) (.int .i64 tm) (.int .i64 tn)
 refine bodyPost_ret (results_cell_row rfl _ _ w.heap.size 29 _ (0,0) _ rfl ts9.1 Tryz.underlying29 rfl (by kernel_rfl)) rfl ?_
 rw [HPST.out]
 refine ⟨⟨_,_,rfl,HM.out,(HX.out.ls.keep fun k hk hlt=>ts9.2.block k (by omega) hlt).weaken fun k hk=>Nat.le_of_lt hk.1⟩,HBW.out.trans (ts9.2.below (fun k hk=>Nat.ne_of_lt hk) (by omega))⟩
end
end Go.Proofs.YtieojjngeibnmaaGreatDoor
