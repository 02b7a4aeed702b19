/- LangBack: the walk. -/
import Derived.Test.YtieojjngeibnmaaGreatDoorZB42
import Derived.Test.YtieojjngeibnmaaGreatDoorZB44
import Derived.Test.YtieojjngeibnmaaGreatDoorZB45
import Derived.Test.YtieojjngeibnmaaGreatDoorZB7
set_option linter.unusedVariables false
set_option linter.unusedSimpArgs false
set_option maxRecDepth 100000
set_option maxHeartbeats 64000000
namespace Go.Proofs.YtieojjngeibnmaaGreatDoor
open Go.Lib (hid)
section
open Go.RowKit
theorem made_ok {s:Stmt} (h:Made17 s):StOk s:=by
 have k:=made_small h
 have y:=k.short
 have v:∀ {v:Val},SmallV 40 v->ValOk v:=fun h=>⟨h.1,h.2.1,Nat.le_trans h.2.2 (by decide)⟩
 refine ⟨y.mono (by decide),fun x hx=>v (k.row x hx),fun x hx=>v (k.sets x hx).2.2,fun x hx=>v (k.wher x hx).2,fun x hx=>Nat.le_trans (k.names x hx) (by decide),?_,k.n⟩
 cases h with
 | select t agg ns j l r c q ht hh =>
  show agg<=_
  rcases hh with ⟨h,-,-⟩|⟨h,-⟩|⟨-,h,-⟩ <;> omega
 | _=>show (0:Int)<=_;decide
theorem made_size {s:Stmt} (h:Made17 s):(printedM s).size<=4294967000:=Nat.le_trans (printed_small (made_small h)) (by decide)
theorem none_bad:parseM ⟨#[]⟩=.error (0,60):=by decide +kernel
theorem print_right {s:Stmt} (h:rightM s=true):printM s=printedM s/\parseM (printedM s)=.ok s:=by
 have h2:=h
 unfold rightM at h2
 refine ⟨by unfold printM;rw [h];rfl,?_⟩
 cases e:parseM (printedM s) with
 | error er=>rw [e] at h2;cases h2
 | ok q=>rw [e] at h2;rw [<- of_decide_eq_true h2]
theorem print_wrong {s:Stmt} (h:rightM s=false):printM s=⟨#[]⟩:=by
 unfold printM
 rw [h]
 rfl
theorem print_size {s:Stmt} (h:(printedM s).size<=4294967000):(printM s).size<=4294967000:=by
 unfold printM
 split
 · exact h
 · exact Nat.zero_le _
theorem st_cells {p:Nat->Prop} {w:World} {L:Lists} {s:Stmt} (h:SlsAt p w L s):(stC L s).all (·.oneCell')=true:=by
 obtain ⟨_,_,h1,-⟩:=h.cols
 obtain ⟨_,_,h2,-⟩:=h.names
 obtain ⟨_,_,h3,-⟩:=h.row
 obtain ⟨_,_,h4,-⟩:=h.sets
 obtain ⟨_,_,h5,-⟩:=h.wher
 obtain ⟨_,_,h6,-⟩:=h.order
 simp [stC,h1,h2,h3,h4,h5,h6,Value.oneCell']
structure StBox (p:Nat->Prop) (g:Nat) (V:Array Value) (s:Stmt) (w:World):Prop where
 box:w.heap[g]? = some (.cells V 29 (0,0))
 ls:∃ L,V=stC L s/\SlsAt p w L s
theorem StBox.below {p:Nat->Prop} {g:Nat} {V:Array Value} {s:Stmt} {w w':World} (h:StBox p g V s w) (b:Below w.heap.size w w'):StBox p g V s w':=by
 obtain ⟨L,h1,h2⟩:=h.ls
 exact ⟨(b.block _ (jB h.box)).trans h.box,L,h1,h2.below b⟩
theorem StBox.size {p:Nat->Prop} {g:Nat} {V:Array Value} {s:Stmt} {w:World} (h:StBox p g V s w):V.size=15:=by
 obtain ⟨L,h1,-⟩:=h.ls
 rw [h1];rfl
theorem StBox.load {p:Nat->Prop} {g:Nat} {V:Array Value} {s:Stmt} {w:World} (h:StBox p g V s w) {N:Nat} (hN:N=15):(loadCellsFrom ⟨g,0,none⟩ 0 N #[]).run Tryz.prog w=.ok V w:=box_load h.box (h.size.trans hN.symm)
theorem st_size {N:Nat} (hN:N=15) (w:World):(sizeOf 29).run Tryz.prog w=.ok N w:=by rw [hN];kernel_rfl
def st0C:Array Value:=#[.int .i64 0,.string ⟨#[]⟩,.string ⟨#[]⟩,.slice none 0 0,.slice none 0 0,.slice none 0 0,.slice none 0 0,.slice none 0 0,.string ⟨#[]⟩,.string ⟨#[]⟩,.string ⟨#[]⟩,.int .i64 0,.slice none 0 0,.int .i64 0,.int .i64 0]
theorem st_new {p:Nat->Prop} {V:Array Value} {L:Lists} {s:Stmt} {w0:World} (h:SlsAt p w0 L s) (hV:V=stC L s) (w:World):(storeCells ⟨w.heap.size,0,none⟩ V.toList 0).run Tryz.prog (w.alloc (.cells #[.int .i64 0,.string ⟨#[]⟩,.string ⟨#[]⟩,.slice none 0 0,.slice none 0 0,.slice none 0 0,.slice none 0 0,.slice none 0 0,.string ⟨#[]⟩,.string ⟨#[]⟩,.string ⟨#[]⟩,.int .i64 0,.slice none 0 0,.int .i64 0,.int .i64 0] 29))=.ok () (w.alloc (.cells V 29)):=by
 have hz:V.size=15:=by rw [hV];rfl
 exact run_storeCells_new w 29 _ V (by rw [hz];kernel_rfl) (by rw [hz];rfl) (by rw [hV];exact st_cells h)
theorem StBox.make {p:Nat->Prop} {L:Lists} {s:Stmt} {w:World} (h:SlsAt p w L s) {V:Array Value} (hV:V=stC L s):StBox p w.heap.size V s (w.alloc (.cells V 29)) :=
 ⟨heap_alloc_new _ _,L,hV,h.below ((b0R).alloc (jR _) _)⟩
theorem StBox.put {p q:Nat->Prop} {g:Nat} {V U:Array Value} {s t:Stmt} {w:World} (h:StBox p g V s w) {L:Lists} (hU:U=stC L t) (hL:SlsAt q w L t) (hq:¬ q g) :
 (storeCells ⟨g,0,none⟩ U.toList 0).run Tryz.prog w=.ok () (w.setRow g U)/\StBox q g U t (w.setRow g U)/\w.grownBy (w.setRow g U) (some g):=by
 have hz:V.size=U.size:=by rw [h.size,hU];rfl
 obtain ⟨h1,h2,h3⟩:=box_store (P:=Tryz.prog) h.box hz (by rw [hU];exact st_cells hL)
 exact ⟨h1,⟨h2,L,hU,hL.keep fun k hk hl=>h3.block k hl fun e=>by cases e;exact hq hk⟩,h3⟩
theorem same_box {p q:Nat->Prop} {g h:Nat} {V U:Array Value} {s t:Stmt} {w:World} (hs:StBox p g V s w) (ht:StBox q h U t w):Calls Tryz.prog 19 #[.agg V,.agg U] w fun e w'=>e=.returned (.bool (decide (s=t)))/\Below w.heap.size w w':=by
 obtain ⟨L,rfl,h1⟩:=hs.ls
 obtain ⟨M,rfl,h2⟩:=ht.ls
 exact same_any h1 h2
theorem right_box {p:Nat->Prop} {g:Nat} {V:Array Value} {s:Stmt} {w:World} (he:EnvL w) (hs:StBox p g V s w) (ok:StOk s) (hsz:(printedM s).size<=4294967000):Calls Tryz.prog 15 #[.agg V] w fun e w'=>e=.returned (.bool (rightM s))/\Below w.heap.size w w':=by
 obtain ⟨L,rfl,h1⟩:=hs.ls
 exact right_any he h1 ok hsz
theorem print_box {p:Nat->Prop} {g:Nat} {V:Array Value} {s:Stmt} {w:World} (he:EnvL w) (hs:StBox p g V s w) (ok:StOk s) (hsz:(printedM s).size<=4294967000):Calls Tryz.prog 17 #[.agg V] w fun e w'=>e=.returned (.string (printM s))/\Below w.heap.size w w':=by
 obtain ⟨L,rfl,h1⟩:=hs.ls
 exact print_any he h1 ok hsz
theorem back_walk {p q:Nat->Prop} {L:Lists} {s:Stmt} {al:Option Addr} {cl:Nat} {l:List Int} {w:World} (hs:SlsAt p w L s) (hl:SlV intR q w (.slice al l.length cl) l) (ok:StOk (fewS s)) (hsz:(printedM (fewS s)).size<=4294967000) (he:EnvL w) :
 Calls Tryz.prog 4 #[.agg (stC L s),.slice al l.length cl] w fun e w'=>e=.returned (.bool true)/\Below w.heap.size w w':=by
 obtain ⟨t,ht⟩:∃ t,t=fewS s:=⟨_,rfl⟩
 have HOK:=hid (show StOk t/\(printedM t).size<=4294967000 from ⟨by rw [ht];exact ok,by rw [ht];exact hsz⟩)
 obtain ⟨N,hN⟩:∃ N,N=15:=⟨_,rfl⟩
 have z29:=st_size hN
 obtain ⟨V1,hV1⟩:∃ V,V=stC L s:=⟨_,rfl⟩
 rw [<- hV1]
 have b1:Below w.heap.size w (w.alloc (.cells V1 29)):=(b0R).alloc (jR _) _
 have A1:=hid (StBox.make hs hV1)
 have con:=sanity_any (he.below b1)
 have HE:=hid he
 have HL:=hid hl
 have HT:=hid ht
 have HS:=hid hs.bound
 have B1:=hid b1
 have HV1:=hid hV1
 have HN:=hid hN
 clear ok hsz hs hl he b1 hV1 ht hN
 go_enter Tryz.func4,Tryz.ntmps4
 go_wp2_with fail
 refine con.mono ?_
 rintro e w2 ⟨rfl,b2⟩
 have B2:=hid (step2 B1.out b2)
 have A2:=hid (A1.out.below b2)
 clear con b2 A1 B1
 have ld:=A2.out.load HN.out
 have con:Calls Tryz.prog 13 #[.agg V1] w2 fun e w'=>∃ V,e=.returned (.agg V)/\(∃ M,V=stC M t/\SlsAt (fun k=>k ≠ w.heap.size) w' M t)/\Below w2.heap.size w2 w':=by
  rw [HV1.out,HT.out]
  refine (few_any (HS.out.below B2.out)).mono ?_
  rintro e w3 ⟨⟨L',rfl,l3⟩,b3⟩
  refine ⟨_,rfl,⟨L',rfl,l3.weaken fun k hk=>?_⟩,b3⟩
  have:=jB A2.out.box
  rcases hk with hk|hk
  · have:=hk.2;omega
  · omega
 go_wp2_with fail
 refine con.mono ?_
 rintro e w3 ⟨V,rfl,⟨M,hV,l3⟩,b3⟩
 have B3:=hid (step2 B2.out b3)
 have P3:=hid ((A2.out.below b3).put hV l3 (fun h=>h rfl))
 have st:=P3.out.1
 have hz3:V.size=N:=by rw [HN.out,hV];rfl
 have hb3:w.heap.size<w3.heap.size:=jB (A2.out.below b3).box
 clear con ld b3 hV l3 A2 B2
 go_upto_region 3 with (fail)
 obtain ⟨W4,hW4⟩:∃ W,W=w3.setRow w.heap.size V:=⟨_,rfl⟩
 rw [<- hW4] at P3 ⊢
 obtain ⟨-,a4,g4⟩:=P3.out
 have A4:=hid a4
 have B4:=hid (B3.out.trans (grown_below g4 (jR _) (Nat.le_of_lt hb3)))
 clear a4 g4 P3 hW4 st hb3 hz3 B3
 have con:=made17_any (HL.out.below B4.out)
 go_wp2_with fail
 refine con.mono ?_
 rintro e w5 ⟨⟨Lc,c,rfl,hm,l5⟩,b5⟩
 have HM:=hid hm
 have B5:=hid (step2 B4.out b5)
 have A5:=hid (A4.out.below b5)
 obtain ⟨VC,hVC⟩:∃ V,V=stC Lc c:=⟨_,rfl⟩
 rw [<- hVC]
 have sn:=st_new l5 hVC w5
 have hz5:VC.size=N:=by rw [HN.out,hVC];rfl
 have C6:=hid (StBox.make l5 hVC)
 clear con b5 hm A4 B4 l5 hVC
 go_upto_region 4 with (fail)
 obtain ⟨W6,hW6⟩:∃ W,w5.alloc (.cells VC 29)=W:=⟨_,rfl⟩
 obtain ⟨gc,hgc⟩:∃ g,g=w5.heap.size:=⟨_,rfl⟩
 rw [hW6] at C6 ⊢
 rw [<- hgc] at C6 ⊢
 have b6:Below w5.heap.size w5 W6:=by rw [<- hW6];exact (b0R).alloc (jR _) _
 have B6:=hid (step2 B5.out b6)
 have A6:=hid (A5.out.below b6)
 clear b6 hW6 hgc sn hz5 A5 B5
 have ld:=A6.out.load HN.out
 have con:=print_box (HE.out.below B6.out) A6.out HOK.out.1 HOK.out.2
 obtain ⟨P,hP⟩:∃ P,P=printM t:=⟨_,rfl⟩
 have HP:=hid hP
 rw [<- hP] at con
 clear hP
 go_wp2_with fail
 refine con.mono ?_
 rintro e w7 ⟨rfl,b7⟩
 have B7:=hid (step2 B6.out b7)
 have con2:=parse_any (s:=P) (HE.out.below B7.out) (by rw [HP.out];exact print_size HOK.out.2)
 have A7:=hid (A6.out.below b7)
 have C7:=hid (C6.out.below b7)
 clear con b7 ld A6 C6 B6
 go_wp2_with fail
 refine con2.mono ?_
 intro e w8 h8
 obtain ⟨b8,Lx,x,xa,xc,rfl,lx,hx⟩:=parse_read h8
 have HX:=hid (show (rightM t=true/\x=t/\xa=0/\xc=0) \/ (rightM t=false/\xc ≠ 0) from by
  cases hr:rightM t with
  | true =>
   left
   obtain ⟨h1,h2⟩:=print_right hr
   rw [HP.out,h1,h2] at hx
   rcases hx with ⟨h3,h4,h5⟩|⟨h3,-,-⟩
   · cases h3;exact ⟨rfl,rfl,h4,h5⟩
   · cases h3
  | false =>
   right
   rw [HP.out,print_wrong hr,none_bad] at hx
   rcases hx with ⟨h3,-,-⟩|⟨h3,-,h5⟩
   · cases h3
   · exact ⟨rfl,h5⟩)
 have B8:=hid (step2 B7.out b8)
 have A8:=hid (A7.out.below b8)
 have C8:=hid (C7.out.below b8)
 obtain ⟨VX,hVX⟩:∃ V,V=stC Lx x:=⟨_,rfl⟩
 rw [<- hVX]
 have sn:=st_new lx hVX w8
 have hz8:VX.size=N:=by rw [HN.out,hVX];rfl
 have X9:=hid (StBox.make lx hVX)
 clear con2 h8 b8 hx lx hVX A7 C7 B7
 go_upto_region 5 with (fail)
 obtain ⟨W9,hW9⟩:∃ W,w8.alloc (.cells VX 29)=W:=⟨_,rfl⟩
 obtain ⟨gx,hgx⟩:∃ g,g=w8.heap.size:=⟨_,rfl⟩
 rw [hW9] at X9 ⊢
 rw [<- hgx] at X9 ⊢
 have b9:Below w8.heap.size w8 W9:=by rw [<- hW9];exact (b0R).alloc (jR _) _
 have B9:=hid (step2 B8.out b9)
 have A9:=hid (A8.out.below b9)
 have C9:=hid (C8.out.below b9)
 clear b9 hW9 hgx sn hz8 A8 C8 B8
 have ld:=C9.out.load HN.out
 have con:=print_box (HE.out.below B9.out) C9.out (made_ok HM.out) (made_size HM.out)
 have hpr:=print_right (made_right HM.out)
 rw [hpr.1] at con
 obtain ⟨P2,hP2⟩:∃ P,P=printedM c:=⟨_,rfl⟩
 have HP2:=hid hP2
 have HPP:=hid hpr.2
 rw [<- hP2] at con
 clear hP2 hpr
 go_wp2_with fail
 refine con.mono ?_
 rintro e w10 ⟨rfl,b10⟩
 have B10:=hid (step2 B9.out b10)
 have con2:=parse_ok (s:=P2) (q:=c) (HE.out.below B10.out) (by rw [HP2.out];exact made_size HM.out) (by rw [HP2.out];exact HPP.out)
 have A10:=hid (A9.out.below b10)
 have C10:=hid (C9.out.below b10)
 have X10:=hid (X9.out.below b10)
 clear con b10 ld A9 C9 X9 B9
 go_wp2_with fail
 refine con2.mono ?_
 rintro e w11 ⟨Ly,rfl,b11,ly⟩
 have B11:=hid (step2 B10.out b11)
 have A11:=hid (A10.out.below b11)
 have C11:=hid (C10.out.below b11)
 have X11:=hid (X10.out.below b11)
 obtain ⟨VY,hVY⟩:∃ V,V=stC Ly c:=⟨_,rfl⟩
 rw [<- hVY]
 have sn:=st_new ly hVY w11
 have hz11:VY.size=N:=by rw [HN.out,hVY];rfl
 have Y12:=hid (StBox.make ly hVY)
 clear con2 b11 ly hVY A10 C10 X10 B10
 go_upto_region 6 with (fail)
 obtain ⟨W12,hW12⟩:∃ W,w11.alloc (.cells VY 29)=W:=⟨_,rfl⟩
 obtain ⟨gy,hgy⟩:∃ g,g=w11.heap.size:=⟨_,rfl⟩
 rw [hW12] at Y12 ⊢
 rw [<- hgy] at Y12 ⊢
 have b12:Below w11.heap.size w11 W12:=by rw [<- hW12];exact (b0R).alloc (jR _) _
 have B12:=hid (step2 B11.out b12)
 have A12:=hid (A11.out.below b12)
 have C12:=hid (C11.out.below b12)
 have X12:=hid (X11.out.below b12)
 clear b12 hW12 hgy sn hz11 A11 C11 X11 B11
 have cyc:=same_box Y12.out C12.out
 rw [decide_eq_true rfl] at cyc
 rcases HX.out with ⟨h1,h2,rfl,rfl⟩|⟨h1,h2⟩
 · have HRT:=hid h1
   have ld1:=X12.out.load HN.out
   have ld2:=A12.out.load HN.out
   have con:=same_box X12.out A12.out
   rw [decide_eq_true h2] at con
   clear h1 h2 cyc
   go_wp2_with fail
   refine con.mono ?_
   rintro e w13 ⟨rfl,b13⟩
   have B13:=hid (step2 B12.out b13)
   have A13:=hid (A12.out.below b13)
   have C13:=hid (C12.out.below b13)
   have Y13:=hid (Y12.out.below b13)
   clear con b13 ld1 ld2
   have ld1:=Y13.out.load HN.out
   have ld2:=C13.out.load HN.out
   have con:=same_box Y13.out C13.out
   rw [decide_eq_true rfl] at con
   go_wp2_with fail
   refine con.mono ?_
   rintro e w14 ⟨rfl,b14⟩
   have B14:=hid (step2 B13.out b14)
   have A14:=hid (A13.out.below b14)
   clear con b14 ld1 ld2
   have ld1:=A14.out.load HN.out
   have con:=right_box (HE.out.below B14.out) A14.out HOK.out.1 HOK.out.2
   rw [HRT.out] at con
   go_wp2_with fail
   refine con.mono ?_
   rintro e w15 ⟨rfl,b15⟩
   have B15:=hid (step2 B14.out b15)
   clear con b15
   go_wp2_with fail
   go_ret
   exact ⟨rfl,B15.out⟩
 · have HRT:=hid h1
   have d0:(xc == 0)=false:=by simpa using h2
   have ld1:=Y12.out.load HN.out
   have ld2:=C12.out.load HN.out
   clear h1 h2
   go_wp2_with fail
   refine cyc.mono ?_
   rintro e w13 ⟨rfl,b13⟩
   have B13:=hid (step2 B12.out b13)
   have A13:=hid (A12.out.below b13)
   clear cyc b13 ld1 ld2
   have ld1:=A13.out.load HN.out
   have con:=right_box (HE.out.below B13.out) A13.out HOK.out.1 HOK.out.2
   rw [HRT.out] at con
   go_wp2_with fail
   refine con.mono ?_
   rintro e w14 ⟨rfl,b14⟩
   have B14:=hid (step2 B13.out b14)
   have A14:=hid (A13.out.below b14)
   clear con b14 ld1
   have ld1:=A14.out.load HN.out
   have con:=right_box (HE.out.below B14.out) A14.out HOK.out.1 HOK.out.2
   rw [HRT.out] at con
   go_wp2_with fail
   refine con.mono ?_
   rintro e w15 ⟨rfl,b15⟩
   have B15:=hid (step2 B14.out b15)
   have A15:=hid (A14.out.below b15)
   clear con b15 ld1
   have ld1:=A15.out.load HN.out
   have con:=print_box (HE.out.below B15.out) A15.out HOK.out.1 HOK.out.2
   rw [print_wrong HRT.out] at con
   go_wp2_with fail
   refine con.mono ?_
   rintro e w16 ⟨rfl,b16⟩
   have B16:=hid (step2 B15.out b16)
   clear con b16 ld1
   go_wp2_with fail
   go_ret
   exact ⟨rfl,B16.out⟩
end
end Go.Proofs.YtieojjngeibnmaaGreatDoor
