/- The reference's generated query. -/
import Derived.Test.YtieojjngeibnmaaGreatDoorZB36
import Derived.Test.YtieojjngeibnmaaGreatDoorZB41
import Derived.Test.YtieojjngeibnmaaGreatDoorZB4
import Derived.Test.YtieojjngeibnmaaGreatDoorZB6
set_option linter.unusedVariables false
set_option linter.unusedSimpArgs false
set_option maxRecDepth 100000
set_option maxHeartbeats 64000000
namespace Go.Proofs.YtieojjngeibnmaaGreatDoor
open Go.Lib (hid)
section
open Go.RowKit
theorem row_take {α:Type} {R:Rep α} {p:Nat->Prop} {w:World} {a:Option Addr} {L:List α} (h:RowAt R p w a L) (n:Nat):RowAt R p w a (L.take n):=by
 rcases h with rfl|⟨b,off,ha,hp,hb,h⟩
 · exact Or.inl (by simp)
 · refine Or.inr ⟨b,off,ha,hp,hb.sub (jR _) (by rw [List.length_take];have:=Nat.mul_le_mul_right R.sz (Nat.min_le_right n L.length);omega),fun t ht=>?_⟩
   have h1:t<L.length:=by simp at ht;omega
   rw [List.getElem_take]
   exact h t h1
structure QX (p:Nat->Prop) (w:World) (b:Nat) (L:Lists) (s:Stmt) (wx:World):Prop where
 box:wx.heap[b]? = some (.cells (stC L s) 29 (0,0))
 ls:SlsAt p wx L s
 g:w.grownBy wx (some b)
theorem QX.below {p:Nat->Prop} {w wx wy:World} {b:Nat} {L:Lists} {s:Stmt} (h:QX p w b L s wx) (hb:Below wx.heap.size wx wy):QX p w b L s wy :=
 ⟨(hb.block _ (jB h.box)).trans h.box,h.ls.below hb,grown_then h.g hb⟩
theorem grow_set1 (w:World) (b j:Nat) (v:Value):w.grownBy (w.setCell ⟨b,j,none⟩ v) (some b) :=
 ⟨rfl,rfl,rfl,by simp,fun k hk hne=>heap_setCell_other w ⟨b,j,none⟩ k v (fun e=>hne (by rw [e]))⟩
theorem QX.put {p:Nat->Prop} {w wx:World} {b:Nat} {L L':Lists} {s s':Stmt} (h:QX p w b L s wx) (hp:¬ p b) (j:Nat) (v:Value) (hc:(stC L s).setIfInBounds j v=stC L' s') (hl:SlsAt p wx L' s'):QX p w b L' s' (wx.setCell ⟨b,j,none⟩ v):=by
 have hg:=grow_set1 wx b j v
 refine ⟨by rw [<- hc];exact heap_setCell_same _ _ _ _ _ _ h.box,hl.keep fun k hk hlt=>hg.block k hlt (fun e=>hp (by rw [<- jI e];exact hk)),h.g.trans hg⟩
theorem QX.arg {α:Type} {R:Rep α} {p q:Nat->Prop} {w wx:World} {b:Nat} {L:Lists} {s:Stmt} {v:Value} {Z:List α} (h:QX p w b L s wx) (hq:¬ q b) (hv:SlV R q w v Z):SlV R q wx v Z :=
 hv.keep fun k hk hlt=>h.g.block k hlt (fun e=>hq (by rw [<- jI e];exact hk))
theorem nm4_take {n:Nat}:∀ u ∈ nm4.take n,u ∈ nm4:=fun u hu=>List.mem_of_mem_take hu
theorem nm4_drop {n:Nat}:∀ u ∈ nm4.drop n,u ∈ nm4:=fun u hu=>List.mem_of_mem_drop hu
theorem query_any {q:Nat->Prop} {al an ar:Option Addr} {cl cn cr:Nat} {l:List Int} {r:List Val} {w:World} {b:Nat} {T:ByteArray} (n:Nat) (hn1:1<=n) (hn3:n<=3) (hT:T ∈ tb3) (hb:w.heap[b]? = some (.cells (stC nilL { stmt0 with kind:=7,table:=T }) 29 (0,0)))
 (hl:SlV intR q w (.slice al l.length cl) l) (hnm:SlV strF q w (.slice an 4 cn) nm4) (hr:SlV valR q w (.slice ar 7 cr) r) (hq:¬ q b) (hr7:r.length=7) (hok:∀ u ∈ r,ValS u) :
 Calls Tryz.prog 40 #[.pointer (some ⟨b,0,none⟩),.slice al l.length cl,.slice an 4 cn,.slice ar 7 cr,.int .i64 n] w fun e w'=>e=.returned (.tuple #[])/\∃ L s,Made17 s/\QX (fun k=>w.heap.size<=k) w b L s w':=by
 obtain ⟨Pst,hPst⟩:∃ Pst,Pst=fun (e:Ending) (w':World)=>e=.returned (.tuple #[])/\∃ L s,Made17 s/\QX (fun k=>w.heap.size<=k) w b L s w':=⟨_,rfl⟩
 have HPST:=hid hPst
 rw [<- hPst]
 have hbl:=jB hb
 have HNB:=hid (show ¬ w.heap.size<=b from Nat.not_le.2 hbl)
 have HQ:=hid hq
 have HA:=hid (show SlV intR q w (.slice al l.length cl) l/\SlV strF q w (.slice an 4 cn) nm4/\SlV valR q w (.slice ar 7 cr) r from ⟨hl,hnm,hr⟩)
 have HRR:=hid (show r.length=7/\(∀ u ∈ r,ValS u)/\T ∈ tb3 from ⟨hr7,hok,hT⟩)
 have Q0:=hid (show QX (fun k=>w.heap.size<=k) w b nilL { stmt0 with kind:=7,table:=T } w from ⟨hb,by have:=nil_read (fun k=>w.heap.size<=k) w;exact ⟨this.cols,this.names,this.row,this.sets,this.wher,this.order⟩,grownBy_refl _ _⟩)
 obtain ⟨z,hz,hz8⟩:=pick_nat l 3 (n:=8) (m:=8) rfl (by decide)
 have con:=pick_any hl 3 (by decide) 8 (by decide) (by decide)
 rw [hz] at con
 obtain ⟨i0,hi0,hz0,hz1,hz2⟩:=info_parts (show (Tryz.prog.info? 9).map (fun i=>(i.zero,i.size,i.bytes))=some (some (.string ByteArray.empty),1,16) by kernel_rfl)
 obtain ⟨A,hA⟩:∃ A:Int,max ((z:Int) - 3) 0=A:=⟨_,rfl⟩
 have hAb:0<=A/\A<=4:=by omega
 obtain ⟨Z,hZ⟩:∃ Z,Z=nm4.take n:=⟨_,rfl⟩
 have hZl:n=Z.length:=by rw [hZ,List.length_take];simp [nm4];omega
 have HZ:=hid (show (∀ u ∈ Z,u ∈ nm4)/\Z=nm4.take Z.length from ⟨by rw [hZ];exact nm4_take,by rw [<- hZl];exact hZ⟩)
 obtain ⟨Y,hY⟩:∃ Y,Y=nm4.drop n:=⟨_,rfl⟩
 have hYl:4 - n=Y.length:=by rw [hY,List.length_drop];simp [nm4]
 have HY:=hid (show (∀ u ∈ Y,u ∈ nm4)/\Y=nm4.drop Z.length from ⟨by rw [hY];exact nm4_drop,by rw [<- hZl];exact hY⟩)
 clear hY hZ
 subst hZl
 obtain ⟨bn,on,rfl,_,hbn⟩:=hnm.row.2.2.2.addr (by simp [nm4])
 have hcn:=hnm.row.2.1
 have z11:=jC hb 11
 have f11:=free_of hb 11
 simp only [stC,List.getElem?_toArray,List.getElem?_cons_zero,List.getElem?_cons_succ] at z11
 obtain ⟨w3,hw3⟩:∃ W,w.setCell ⟨b,11,none⟩ (.int .i64 A)=W:=⟨_,rfl⟩
 clear hPst hb hl hnm hr hq hr7 hok hT hz
 go_enter Tryz.func40,Tryz.ntmps40
 go_wp2_with fail
 refine con.mono ?_
 rintro e w2 ⟨rfl,rfl⟩
 clear con
 go_upto_region 1 with (fail)
 have Q1:=hid (show QX (fun k=>w.heap.size<=k) w b nilL { stmt0 with kind:=7,table:=T,agg:=A } w3 by
  rw [<- hw3]
  exact Q0.out.put HNB.out 11 _ rfl (by have:=nil_read (fun k=>w.heap.size<=k) w;exact ⟨this.cols,this.names,this.row,this.sets,this.wher,this.order⟩))
 clear Q0 hw3 hA z11 f11
 have z11:=jC Q1.out.box 11
 simp only [stC,List.getElem?_toArray,List.getElem?_cons_zero,List.getElem?_cons_succ] at z11
 have hs3:=Q1.out.g.size
 go_upto_block 0 with (fail)
 go_cut [4] from 30 to 44 (fun x4 wx=>x4=.int .i64 (Z.length:Nat)/\∃ L ns,Hid (QX (fun k=>w.heap.size<=k) w b L { stmt0 with kind:=7,table:=T,agg:=A,names:=ns } wx)/\Hid (HeadS A ns/\(∀ u ∈ ns,u ∈ nm4)/\L.order=.slice none 0 0))
 case first =>
  have z4:=jC Q1.out.box 4
  have f4:=free_of Q1.out.box 4
  simp only [stC,nilL,List.getElem?_toArray,List.getElem?_cons_zero,List.getElem?_cons_succ] at z4
  by_cases h0:A=0
  · have e0:(A == 0)=true:=by simpa using h0
    subst h0
    clear z11
    go_upto_region 4 with (fail)
    refine wp_region_loose2 [([0,1,2,3,4,5,6,7],8),([9,10],11)] (Below w3.heap.size w3) (Below w3.heap.size w3) (by kernel_rfl) (by kernel_rfl) (by kernel_rfl) (fun w1 w2 h b=>h.trans (b.mono h.size)) (Below.drew b0R) ?_
    apply wpSegs_cons (Below w3.heap.size w3) (fun u w'=>(∃ va vc,u=.slice va Z.length vc)/\w'.ownsRow w3.heap.size 9 1 u Z.length (Z.flatMap strEnc)/\Below w3.heap.size w3 w') (fun _ h=>h) (fun _ h=>h)
    case hq =>
     intro w0 hw0
     have ne:Nonempty (Wld (Below w0.heap.size w0)):=⟨⟨w0,Below.refl _ _⟩⟩
     have y4:=fun x:Wld (Below w0.heap.size w0)=>jC (((hw0.trans (x.good.mono hw0.size)).block _ (jB Q1.out.box)).trans Q1.out.box) 4
     simp only [stC,List.getElem?_toArray,List.getElem?_cons_zero,List.getElem?_cons_succ,nilL] at y4
     simp only [pickOps,List.getElem?_cons_zero,List.getElem?_cons_succ]
     apply quiet_hide
     intro KE hKE
     repeat (go_big_quiet_step (fail))
     refine wpQuiet_nil ?_
     exact hKE _ rfl
    case ho=>rfl
    case hop=>rfl
    case hw=>kernel_rfl
    case hDJ=>exact fun _ _ _ h=>h.2.2
    case hD=>exact fun u w1 w2 h hb=>⟨h.1,owns_below h.2.1 hb,h.2.2.trans (hb.mono h.2.2.size)⟩
    case hlo =>
     intro wa ba
     have hrow:=hid (show RowAt strF q wa (some ⟨bn,on,none⟩) Z from by rw [HZ.out.2];exact row_take ((Q1.out.below ba).arg HQ.out HA.out.2.1).row.2.2.2 _)
     have hsa:=ba.size
     refine wpList_append_flat_at rfl _ _ 23 rfl w3.heap.size 9 i0 _ 1 16 Tryz.underlying23 hi0 hz0 hz1 hz2 rfl (by decide) (.slice none 0 0) 0 _ rfl (World.ownsRow_nil _ _ _ _) (hl:=fun _=>rfl) Z _ _ rfl hrow.out (str_cells _) (by unfold maxLen;omega) (by omega) hsa ?_
     intro v' w5 o5 g5 at5
     rw [Nat.zero_add,List.nil_append] at o5
     exact wpList_nil ⟨rfl,v',rfl,owned_shape o5,o5,ba.grown g5 hsa (fun q e=>nomatch e)⟩
    case hrest =>
     rintro u w1 ⟨⟨va,vc,rfl⟩,-,-⟩
     simp only [Act.put,List.setIfInBounds_toArray,List.set_cons_succ,List.set_cons_zero]
     apply wpSegs_cons (Below w3.heap.size w3) (fun _ w'=>QX (fun k=>w.heap.size<=k) w b { nilL with names:=.slice va Z.length vc } { stmt0 with kind:=7,table:=T,agg:=0,names:=Z } w') (fun _ h=>h) (fun _ h=>h.2.2)
     case hq =>
      intro w0 hw0
      have ne:Nonempty (Wld (Below w0.heap.size w0)):=⟨⟨w0,Below.refl _ _⟩⟩
      simp only [pickOps,List.getElem?_cons_zero,List.getElem?_cons_succ]
      apply quiet_hide
      intro KE hKE
      repeat (go_big_quiet_step (fail))
      refine wpQuiet_nil ?_
      exact hKE _ rfl
     case ho=>rfl
     case hop=>rfl
     case hw=>kernel_rfl
     case hDJ=>exact fun h=>absurd rfl h
     case hD=>exact fun u w1 w2 h hb=>h.below hb
     case hlo =>
      rintro wa ⟨-,o5,ba⟩
      have QA:=hid (Q1.out.below ba)
      have f4:=free_of QA.out.box 4
      have z4:=jC QA.out.box 4
      simp only [stC,List.getElem?_toArray,List.getElem?_cons_zero,List.getElem?_cons_succ,nilL] at z4
      have SL:=hid (show SlV strF (fun k=>w.heap.size<=k) wa (.slice va Z.length vc) Z from (sl_owned o5 (by omega)).weaken fun k hk=>Nat.le_trans Q1.out.g.size hk)
      clear o5 ba
      go_wp2_with fail
      have hl:=QA.out.ls
      exact QA.out.put HNB.out 4 _ rfl ⟨hl.cols,SL.out,hl.row,hl.sets,hl.wher,hl.order⟩
     case hrest =>
      rintro u4 w5 -
      simp only [Act.put,List.setIfInBounds_toArray,List.set_cons_succ,List.set_cons_zero]
      refine wpSegs_nil ?_
      intro w9 h
      have Q5:=hid h
      clear h
      go_wp2_with fail
      go_meet
      exact ⟨rfl,_,Z,Q5,Or.inl ⟨rfl,fun e=>by rw [e] at hn1;simp at hn1,by omega⟩,HZ.out.1,rfl⟩
  · have e0:(A == 0)=false:=by simpa using h0
    by_cases h1:A=1
    · have e1:(A == 1)=true:=by simpa using h1
      have H1:=hid h1
      clear h0 h1
      go_wp2_with fail
      go_meet
      exact ⟨rfl,nilL,[],Q1,Or.inr (Or.inl ⟨H1.out,rfl⟩),nofun,rfl⟩
    · have e1:(A == 1)=false:=by simpa using h1
      have HA2:=hid (show 2<=A/\A<=4 by omega)
      clear h0 h1
      obtain ⟨j,hj,hj4⟩:=pick_nat l 4 (n:=4) (m:=4) rfl (by decide)
      obtain ⟨x,hx,hxm⟩:=nm4_at hj4
      have con:=pick_any (Q1.out.arg HQ.out HA.out.1) 4 (by decide) 4 (by decide) (by decide)
      rw [hj] at con
      have cx:=names_cell (Q1.out.arg HQ.out HA.out.2.1).row.2.2.2 hx
      have HXM:=hid hxm
      obtain ⟨w4,hw4⟩:∃ W,w3.alloc (.cells #[.string x] 9)=W:=⟨_,rfl⟩
      have b4:Below w3.heap.size w3 w4:=by rw [<- hw4];exact (b0R).alloc (jR _) _
      have Q4:=hid (Q1.out.below b4)
      have O4:=hid (show w4.ownsRow w3.heap.size 9 1 (.slice (some ⟨w3.heap.size,0,none⟩) 1 1) 1 ([x].flatMap strEnc) by
       rw [<- hw4]
       exact ⟨by simp [strEnc],Or.inr ⟨w3.heap.size,1,_,rfl,jR _,heap_alloc_new _ _,jR _,by unfold maxLen;omega,by simp,by simp [strEnc]⟩⟩)
      have hb4:=Q4.out.box
      have f5:=free_of hb4 4
      have z5:=jC hb4 4
      simp only [stC,nilL,List.getElem?_toArray,List.getElem?_cons_zero,List.getElem?_cons_succ] at z5
      have SL:=hid (show SlV strF (fun k=>w.heap.size<=k) w4 (.slice (some ⟨w3.heap.size,0,none⟩) 1 1) [x] from (sl_owned (L:=[x]) O4.out (by simp)).weaken fun k hk=>Nat.le_trans hs3 hk)
      clear z4 f4 hb4 hj hx hxm b4 O4
      go_wp2_with fail
      refine con.mono ?_
      rintro e w5 ⟨rfl,rfl⟩
      clear con
      go_wp2_with fail
      go_meet
      have hl:=Q4.out.ls
      exact ⟨rfl,{ nilL with names:=.slice (some ⟨w3.heap.size,0,none⟩) 1 1 },[x],Q4.out.put HNB.out 4 _ rfl ⟨hl.cols,SL.out,hl.row,hl.sets,hl.wher,hl.order⟩,Or.inr (Or.inr ⟨HA2.out.1,HA2.out.2,rfl⟩),fun u hu=>by rw [List.mem_singleton] at hu;rw [hu];exact HXM.out,rfl⟩
 case rest =>
 obtain ⟨rfl,L3,ns,Q3,HH⟩:=hcut
 clear Q1 z11 hs3
 have hs3:=Q3.out.g.size
 obtain ⟨k5,hk5,hk53⟩:=pick_nat l 5 (n:=3) (m:=3) rfl (by decide)
 have con:=pick_any (Q3.out.arg HQ.out HA.out.1) 5 (by decide) 3 (by decide) (by decide)
 rw [hk5] at con
 clear hk5
 go_wp2_with fail
 refine con.mono ?_
 rintro e w2 ⟨rfl,rfl⟩
 clear con
 go_upto_if 47 with (fail)
 go_cut [4] from 45 to 66 (fun x4 wx=>x4=.int .i64 (Z.length:Nat)/\∃ jn lf rg,Hid (QX (fun k=>w.heap.size<=k) w b L3 { stmt0 with kind:=7,table:=T,agg:=A,names:=ns,join:=jn,left:=lf,right:=rg } wx)/\Hid ((jn=noStr/\lf=noStr/\rg=noStr) \/ (jn=⟨#[118]⟩/\lf ∈ nm4/\rg ∈ nm4)))
 case first =>
  by_cases hj1:k5=1
  · have e1:((k5:Int) == 1)=true:=by simpa using (show (k5:Int)=1 by omega)
    have e1':(k5 == 1)=true:=by simpa using hj1
    obtain ⟨j6,hj6,hj64⟩:=pick_nat l 6 (n:=4) (m:=4) rfl (by decide)
    obtain ⟨j7,hj7,hj74⟩:=pick_nat l 7 (n:=4) (m:=4) rfl (by decide)
    obtain ⟨x6,hx6,hxm6⟩:=nm4_at hj64
    obtain ⟨x7,hx7,hxm7⟩:=nm4_at hj74
    have f8:=free_of Q3.out.box 8
    have z8:=jC Q3.out.box 8
    obtain ⟨v5,hv5⟩:∃ W,wc.setCell ⟨b,8,none⟩ (.string ⟨#[118]⟩)=W:=⟨_,rfl⟩
    have Q5:=hid (show QX (fun k=>w.heap.size<=k) w b L3 { stmt0 with kind:=7,table:=T,agg:=A,names:=ns,join:=⟨#[118]⟩ } v5 by
     rw [<- hv5]
     have hl:=Q3.out.ls
     exact Q3.out.put HNB.out 8 _ rfl ⟨hl.cols,hl.names,hl.row,hl.sets,hl.wher,hl.order⟩)
    have f9:=free_of Q5.out.box 9
    have z9:=jC Q5.out.box 9
    have con6:=pick_any (Q5.out.arg HQ.out HA.out.1) 6 (by decide) 4 (by decide) (by decide)
    rw [hj6] at con6
    have cx6:=names_cell (Q5.out.arg HQ.out HA.out.2.1).row.2.2.2 hx6
    obtain ⟨v6,hv6⟩:∃ W,v5.setCell ⟨b,9,none⟩ (.string x6)=W:=⟨_,rfl⟩
    have Q6:=hid (show QX (fun k=>w.heap.size<=k) w b L3 { stmt0 with kind:=7,table:=T,agg:=A,names:=ns,join:=⟨#[118]⟩,left:=x6 } v6 by
     rw [<- hv6]
     have hl:=Q5.out.ls
     exact Q5.out.put HNB.out 9 _ rfl ⟨hl.cols,hl.names,hl.row,hl.sets,hl.wher,hl.order⟩)
    have f10:=free_of Q6.out.box 10
    have z10:=jC Q6.out.box 10
    have con7:=pick_any (Q6.out.arg HQ.out HA.out.1) 7 (by decide) 4 (by decide) (by decide)
    rw [hj7] at con7
    have cx7:=names_cell (Q6.out.arg HQ.out HA.out.2.1).row.2.2.2 hx7
    simp only [stC,List.getElem?_toArray,List.getElem?_cons_zero,List.getElem?_cons_succ] at z8 z9 z10
    have HM:=hid (And.intro hxm6 hxm7)
    clear hj1 hj6 hj7 hx6 hx7 hxm6 hxm7
    go_wp2_with fail
    refine con6.mono ?_
    rintro e w2 ⟨rfl,rfl⟩
    clear con6
    go_wp2_with fail
    refine con7.mono ?_
    rintro e w2 ⟨rfl,rfl⟩
    clear con7
    go_wp2_with fail
    go_meet
    have hl:=Q6.out.ls
    exact ⟨rfl,_,x6,x7,Q6.out.put HNB.out 10 _ rfl ⟨hl.cols,hl.names,hl.row,hl.sets,hl.wher,hl.order⟩,Or.inr ⟨rfl,HM.out.1,HM.out.2⟩⟩
  · have e1:((k5:Int) == 1)=false:=by simpa using (show ¬ (k5:Int)=1 by omega)
    have e1':(k5 == 1)=false:=by simpa using hj1
    clear hj1
    go_wp2_with fail
    go_meet
    exact ⟨rfl,noStr,noStr,noStr,Q3,Or.inl ⟨rfl,rfl,rfl⟩⟩
 case rest =>
 obtain ⟨rfl,jn,lf,rg,Q7,HJ⟩:=hcut
 clear Q3 hk53 hs3
 have hs7:=Q7.out.g.size
 have con:=conds_any (Q7.out.arg HQ.out HA.out.1) (Q7.out.arg HQ.out HA.out.2.1) (Q7.out.arg HQ.out HA.out.2.2) HRR.out.1 HRR.out.2.1
 go_wp2_with fail
 refine con.mono ?_
 rintro e w8 ⟨⟨cs,v8,rfl,hc3,hcs,o8⟩,b8⟩
 obtain ⟨va8,vc8,rfl⟩:=owned_shape o8
 have Q8:=hid (Q7.out.below b8)
 have SL8:=hid (show SlV condR (fun k=>w.heap.size<=k) w8 (.slice va8 cs.length vc8) cs from (sl_owned o8 (by omega)).weaken fun k hk=>Nat.le_trans hs7 hk)
 have HC:=hid (And.intro hc3 hcs)
 have f7:=free_of Q8.out.box 7
 have z7:=jC Q8.out.box 7
 obtain ⟨w9,hw9⟩:∃ W,w8.setCell ⟨b,7,none⟩ (.slice va8 cs.length vc8)=W:=⟨_,rfl⟩
 have Q9:=hid (show QX (fun k=>w.heap.size<=k) w b { L3 with wher:=.slice va8 cs.length vc8 } { stmt0 with kind:=7,table:=T,agg:=A,names:=ns,join:=jn,left:=lf,right:=rg,wher:=cs } w9 by
  rw [<- hw9]
  have hl:=Q8.out.ls
  exact Q8.out.put HNB.out 7 _ rfl ⟨hl.cols,hl.names,hl.row,hl.sets,SL8.out,hl.order⟩)
 simp only [stC,List.getElem?_toArray,List.getElem?_cons_zero,List.getElem?_cons_succ] at z7
 have z11:=jC Q9.out.box 11
 simp only [stC,List.getElem?_toArray,List.getElem?_cons_zero,List.getElem?_cons_succ] at z11
 clear con o8 b8 hc3 hcs Q7 SL8
 have hlo:=HH.out.2.2
 by_cases h0:A=0
 · have e0:(A == 0)=true:=by simpa using h0
   have H0:=hid h0
   obtain ⟨k8,hk8,hk83⟩:=pick_nat l 8 (n:=3) (m:=3) rfl (by decide)
   have con:=pick_any (Q9.out.arg HQ.out HA.out.1) 8 (by decide) 3 (by decide) (by decide)
   rw [hk8] at con
   clear hk8 h0
   go_wp2_with fail
   refine con.mono ?_
   rintro e w2 ⟨rfl,rfl⟩
   clear con
   by_cases hj1:k8=1
   · have e1:((k8:Int) == 1)=true:=by simpa using (show (k8:Int)=1 by omega)
     have e1':(k8 == 1)=true:=by simpa using hj1
     clear hj1
     go_upto_region 12 with (fail)
     refine wp_region_loose2 [([0,1,2,3,4,5,6,7],8),([9,10],11)] (Below w9.heap.size w9) (Below w9.heap.size w9) (by kernel_rfl) (by kernel_rfl) (by kernel_rfl) (fun w1 w2 h b=>h.trans (b.mono h.size)) (Below.drew b0R) ?_
     apply wpSegs_cons (Below w9.heap.size w9) (fun u w'=>(∃ va vc,u=.slice va Y.length vc)/\w'.ownsRow w9.heap.size 9 1 u Y.length (Y.flatMap strEnc)/\Below w9.heap.size w9 w') (fun _ h=>h) (fun _ h=>h)
     case hq =>
      intro w0 hw0
      have ne:Nonempty (Wld (Below w0.heap.size w0)):=⟨⟨w0,Below.refl _ _⟩⟩
      have y4:=fun x:Wld (Below w0.heap.size w0)=>jC (((hw0.trans (x.good.mono hw0.size)).block _ (jB Q9.out.box)).trans Q9.out.box) 12
      simp only [stC,List.getElem?_toArray,List.getElem?_cons_zero,List.getElem?_cons_succ,hlo] at y4
      simp only [pickOps,List.getElem?_cons_zero,List.getElem?_cons_succ]
      apply quiet_hide
      intro KE hKE
      repeat (go_big_quiet_step (fail))
      refine wpQuiet_nil ?_
      exact hKE _ rfl
     case ho=>rfl
     case hop=>rfl
     case hw=>kernel_rfl
     case hDJ=>exact fun _ _ _ h=>h.2.2
     case hD=>exact fun u w1 w2 h hb=>⟨h.1,owns_below h.2.1 hb,h.2.2.trans (hb.mono h.2.2.size)⟩
     case hlo =>
      intro wa ba
      have hrow:=hid (show RowAt strF q wa (some ⟨bn,on+Z.length,none⟩) Y from by rw [HY.out.2];have hd:=((Q9.out.below ba).arg HQ.out HA.out.2.1).row.2.2.2.drop Z.length (by simp [nm4];omega);simpa [strF,flatR] using hd)
      have hsa:=ba.size
      refine wpList_append_flat_at rfl _ _ 23 rfl w9.heap.size 9 i0 _ 1 16 Tryz.underlying23 hi0 hz0 hz1 hz2 rfl (by decide) (.slice none 0 0) 0 _ rfl (World.ownsRow_nil _ _ _ _) (hl:=fun _=>rfl) Y _ _ rfl hrow.out (str_cells _) (by unfold maxLen;omega) (by omega) hsa ?_
      intro v' w5 o5 g5 at5
      rw [Nat.zero_add,List.nil_append] at o5
      exact wpList_nil ⟨rfl,v',rfl,owned_shape o5,o5,ba.grown g5 hsa (fun q e=>nomatch e)⟩
     case hrest =>
      rintro u w1 ⟨⟨va,vc,rfl⟩,-,-⟩
      simp only [Act.put,List.setIfInBounds_toArray,List.set_cons_succ,List.set_cons_zero]
      apply wpSegs_cons (Below w9.heap.size w9) (fun _ w'=>QX (fun k=>w.heap.size<=k) w b { L3 with wher:=.slice va8 cs.length vc8,order:=.slice va Y.length vc } { stmt0 with kind:=7,table:=T,agg:=A,names:=ns,join:=jn,left:=lf,right:=rg,wher:=cs,order:=Y } w') (fun _ h=>h) (fun _ h=>h.2.2)
      case hq =>
       intro w0 hw0
       have ne:Nonempty (Wld (Below w0.heap.size w0)):=⟨⟨w0,Below.refl _ _⟩⟩
       simp only [pickOps,List.getElem?_cons_zero,List.getElem?_cons_succ]
       apply quiet_hide
       intro KE hKE
       repeat (go_big_quiet_step (fail))
       refine wpQuiet_nil ?_
       exact hKE _ rfl
      case ho=>rfl
      case hop=>rfl
      case hw=>kernel_rfl
      case hDJ=>exact fun h=>absurd rfl h
      case hD=>exact fun u w1 w2 h hb=>h.below hb
      case hlo =>
       rintro wa ⟨-,o5,ba⟩
       have QA:=hid (Q9.out.below ba)
       have f4:=free_of QA.out.box 12
       have z4:=jC QA.out.box 12
       simp only [stC,List.getElem?_toArray,List.getElem?_cons_zero,List.getElem?_cons_succ,hlo] at z4
       have SL:=hid (show SlV strF (fun k=>w.heap.size<=k) wa (.slice va Y.length vc) Y from (sl_owned o5 (by omega)).weaken fun k hk=>Nat.le_trans Q9.out.g.size hk)
       clear o5 ba
       go_wp2_with fail
       have hl:=QA.out.ls
       exact QA.out.put HNB.out 12 _ rfl ⟨hl.cols,hl.names,hl.row,hl.sets,hl.wher,SL.out⟩
      case hrest =>
       rintro u4 w5 -
       simp only [Act.put,List.setIfInBounds_toArray,List.set_cons_succ,List.set_cons_zero]
       refine wpSegs_nil ?_
       intro w9 h
       have Q5:=hid h
       clear h
       go_wp2_with fail
       go_end0
       rw [HPST.out]
       exact ⟨rfl,_,_,.select T A ns jn lf rg cs Y HRR.out.2.2 HH.out.1 HH.out.2.1 HJ.out HC.out.1 HC.out.2 (by omega) HY.out.1 (Or.inl H0.out),Q5.out⟩
   · have e1:((k8:Int) == 1)=false:=by simpa using (show ¬ (k8:Int)=1 by omega)
     have e1':(k8 == 1)=false:=by simpa using hj1
     clear hj1
     go_wp2_with fail
     go_end0
     rw [HPST.out]
     exact ⟨rfl,_,_,.select T A ns jn lf rg cs [] HRR.out.2.2 HH.out.1 HH.out.2.1 HJ.out HC.out.1 HC.out.2 (Nat.zero_le _) nofun (Or.inr rfl),Q9.out⟩
 · have e0:(A == 0)=false:=by simpa using h0
   clear h0
   go_wp2_with fail
   go_end0
   rw [HPST.out]
   exact ⟨rfl,_,_,.select T A ns jn lf rg cs [] HRR.out.2.2 HH.out.1 HH.out.2.1 HJ.out HC.out.1 HC.out.2 (Nat.zero_le _) nofun (Or.inr rfl),Q9.out⟩
end
end Go.Proofs.YtieojjngeibnmaaGreatDoor
