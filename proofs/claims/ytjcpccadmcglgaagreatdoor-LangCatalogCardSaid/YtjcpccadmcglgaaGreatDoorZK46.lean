/- Right and Print. -/
import Derived.Test.YtjcpccadmcglgaaGreatDoorZK45
import Derived.Test.YtjcpccadmcglgaaGreatDoorZK39
set_option linter.unusedVariables false
set_option linter.unusedSimpArgs false
set_option maxRecDepth 100000
set_option maxHeartbeats 64000000
namespace Go.Proofs.YtjcpccadmcglgaaGreatDoor
open Go.Lib (hid)
section
open Go.RowKit
theorem nil_read (p:Nat->Prop) (w:World):SlsAt p w nilL stmt0 :=
 ⟨⟨_,_,rfl,jR _,Nat.zero_le _,RowAt.nil⟩,⟨_,_,rfl,jR _,Nat.zero_le _,RowAt.nil⟩,⟨_,_,rfl,jR _,Nat.zero_le _,RowAt.nil⟩,⟨_,_,rfl,jR _,Nat.zero_le _,RowAt.nil⟩,⟨_,_,rfl,jR _,Nat.zero_le _,RowAt.nil⟩,⟨_,_,rfl,jR _,Nat.zero_le _,RowAt.nil⟩⟩
theorem parse_read {s:ByteArray} {w:World} {e:Ending} {w':World} (h:ParsePost s w e w') :
 Below w.heap.size w w'/\∃ (L:Lists) (q:Stmt) (a:Nat) (c:Int),e=.returned (.tuple #[.agg (stC L q),.int .i64 a,.int .i64 c])/\SlsAt (fun _=>True) w' L q /\
  ((parseM s=.ok q/\a=0/\c=0) \/ (parseM s=.error (a,c)/\q=stmt0/\c ≠ 0)):=by
 obtain ⟨hb,⟨q,L,h1,h2,h3⟩|⟨er,h1,h2⟩⟩:=h
 · exact ⟨hb,L,q,0,0,h2,((h3.read ((parse_code.2 q h1).mono (by decide))).weaken fun _ _=>trivial),Or.inl ⟨h1,rfl,rfl⟩⟩
 · exact ⟨hb,nilL,stmt0,er.1,er.2,h2,nil_read _ _,Or.inr ⟨h1,rfl,parse_code.1 er h1⟩⟩
theorem right_any {p:Nat->Prop} {L:Lists} {s:Stmt} {w:World} (he:EnvL w) (hs:SlsAt p w L s) (ok:StOk s) (hsz:(printedM s).size<=4294967000) :
 Calls Tryz.prog 8 #[.agg (stC L s)] w fun e w'=>e=.returned (.bool (rightM s))/\Below w.heap.size w w':=by
 obtain ⟨Pst,hPst⟩:∃ Pst,Pst=fun (e:Ending) (w':World)=>e=.returned (.bool (rightM s))/\Below w.heap.size w w':=⟨_,rfl⟩
 have HPST:=hid hPst
 rw [<- hPst]
 obtain ⟨⟨a0,a00,e1⟩,⟨a1,a11,e2⟩,⟨a2,a22,e3⟩,⟨a3,a33,e4⟩,⟨a4,a44,e5⟩,⟨a5,a55,e6⟩⟩:=hs.shapes
 obtain ⟨Lc,Ln,Lr,Ls,Lw,Lo⟩:=L
 simp only at e1 e2 e3 e4 e5 e6
 subst e1 e2 e3 e4 e5 e6
 obtain ⟨PR,hPR⟩:∃ P,P=printedM s:=⟨_,rfl⟩
 have HPR:=hid hPR
 obtain ⟨s0,hs0⟩:∃ x,x=s:=⟨_,rfl⟩
 have HS0:=hid hs0
 have HSZ:=hid hsz
 have HOK:=hid ok
 rw [<- hPR] at hsz
 clear hPR hs0
 obtain ⟨sk,stb,snm,scols,snames,srow,ssets,swher,sj,sl,sr,sa,sorder,sm,sn⟩:=s
 simp only at hs
 simp only [stC]
 obtain ⟨W1,hW1⟩:∃ W,w.alloc (.cells #[.int .i64 sk,.string stb,.string snm,.slice a0 scols.length a00,.slice a1 snames.length a11,.slice a2 srow.length a22,.slice a3 ssets.length a33,.slice a4 swher.length a44,.string sj,.string sl,.string sr,.int .i64 sa,.slice a5 sorder.length a55,.int .i64 sm,.int .i64 sn] 33)=W:=⟨_,rfl⟩
 have h1s:W1.heap.size=w.heap.size+1:=by rw [<- hW1];simp
 have b1:Below w.heap.size w W1:=by rw [<- hW1];exact (b0R).alloc (jR _) _
 have hb0:W1.heap[w.heap.size]? = some (.cells #[.int .i64 sk,.string stb,.string snm,.slice a0 scols.length a00,.slice a1 snames.length a11,.slice a2 srow.length a22,.slice a3 ssets.length a33,.slice a4 swher.length a44,.string sj,.string sl,.string sr,.int .i64 sa,.slice a5 sorder.length a55,.int .i64 sm,.int .i64 sn] 33 (0,0)):=by rw [<- hW1];exact heap_alloc_new _ _
 have B1:=hid b1
 have SA:=hid (show ∀ w',Below W1.heap.size W1 w'->w'.heap[w.heap.size]? = some (.cells #[.int .i64 sk,.string stb,.string snm,.slice a0 scols.length a00,.slice a1 snames.length a11,.slice a2 srow.length a22,.slice a3 ssets.length a33,.slice a4 swher.length a44,.string sj,.string sl,.string sr,.int .i64 sa,.slice a5 sorder.length a55,.int .i64 sm,.int .i64 sn] 33 (0,0)) from fun w' h=>(h.block _ (jB hb0)).trans hb0)
 have LA:=hid (show ∀ w',Below W1.heap.size W1 w'->SlsAt p w' ⟨.slice a0 scols.length a00,.slice a1 snames.length a11,.slice a2 srow.length a22,.slice a3 ssets.length a33,.slice a4 swher.length a44,.slice a5 sorder.length a55⟩ ⟨sk,stb,snm,scols,snames,srow,ssets,swher,sj,sl,sr,sa,sorder,sm,sn⟩ from fun w' h=>(hs.below b1).below h)
 have HE:=hid (he.below b1)
 have z0:=jC hb0 0
 have z1:=jC hb0 1
 have z2:=jC hb0 2
 have z3:=jC hb0 3
 have z4:=jC hb0 4
 have z5:=jC hb0 5
 have z6:=jC hb0 6
 have z7:=jC hb0 7
 have z8:=jC hb0 8
 have z9:=jC hb0 9
 have z10:=jC hb0 10
 have z11:=jC hb0 11
 have z12:=jC hb0 12
 have z13:=jC hb0 13
 have z14:=jC hb0 14
 simp only [gT,gZ,gS] at z0 z1 z2 z3 z4 z5 z6 z7 z8 z9 z10 z11 z12 z13 z14
 have con:=printed_any (L:=⟨.slice a0 scols.length a00,.slice a1 snames.length a11,.slice a2 srow.length a22,.slice a3 ssets.length a33,.slice a4 swher.length a44,.slice a5 sorder.length a55⟩) (s:=⟨sk,stb,snm,scols,snames,srow,ssets,swher,sj,sl,sr,sa,sorder,sm,sn⟩) HE.out (LA.out _ b0R) HOK.out HSZ.out
 rw [<- HPR.out] at con
 clear hPst hs b1 hb0 he ok hsz
 go_enter Tryz.func8,Tryz.ntmps8
 go_wp2_with fail
 refine con.mono ?_
 rintro e w2 ⟨rfl,b2⟩
 have B2:=hid b2
 have con2:=parse_any (s:=PR) (HE.out.below b2) (by rw [HPR.out];exact HSZ.out)
 clear con b2 z0 z1 z2 z3 z4 z5 z6 z7 z8 z9 z10 z11 z12 z13 z14
 go_wp2_with fail
 refine con2.mono ?_
 intro e w3 h3
 obtain ⟨b3,L2,q,a9,c9,rfl,hl2,hpm⟩:=parse_read h3
 obtain ⟨⟨d0,d00,e1⟩,⟨d1,d11,e2⟩,⟨d2,d22,e3⟩,⟨d3,d33,e4⟩,⟨d4,d44,e5⟩,⟨d5,d55,e6⟩⟩:=hl2.shapes
 obtain ⟨Lc,Ln,Lr,Ls,Lw,Lo⟩:=L2
 simp only at e1 e2 e3 e4 e5 e6
 subst e1 e2 e3 e4 e5 e6
 have B3:=hid (B2.out.trans (b3.mono B2.out.size))
 rcases hpm with ⟨hpm,rfl,rfl⟩|⟨hpm,-,hne⟩
 · have HR:=hid (show rightM s0=decide (s0=q) by
    unfold rightM
    rw [show printedM s0=PR by rw [HS0.out];exact HPR.out.symm,hpm])
   obtain ⟨q0,hq0⟩:∃ x,x=q:=⟨_,rfl⟩
   have HQ0:=hid hq0
   clear hpm con2 h3 b3 hq0
   obtain ⟨tk,ttb,tnm,tcols,tnames,trow,tsets,twher,tj,tl,tr,ta,torder,tm,tn⟩:=q
   simp only [stC] at *
   obtain ⟨W4,hW4⟩:∃ W,w3.alloc (.cells #[.int .i64 tk,.string ttb,.string tnm,.slice d0 tcols.length d00,.slice d1 tnames.length d11,.slice d2 trow.length d22,.slice d3 tsets.length d33,.slice d4 twher.length d44,.string tj,.string tl,.string tr,.int .i64 ta,.slice d5 torder.length d55,.int .i64 tm,.int .i64 tn] 33)=W:=⟨_,rfl⟩
   have b4:Below w3.heap.size w3 W4:=by rw [<- hW4];exact (b0R).alloc (jR _) _
   have hb4:W4.heap[w3.heap.size]? = some (.cells #[.int .i64 tk,.string ttb,.string tnm,.slice d0 tcols.length d00,.slice d1 tnames.length d11,.slice d2 trow.length d22,.slice d3 tsets.length d33,.slice d4 twher.length d44,.string tj,.string tl,.string tr,.int .i64 ta,.slice d5 torder.length d55,.int .i64 tm,.int .i64 tn] 33 (0,0)):=by rw [<- hW4];exact heap_alloc_new _ _
   have B4:=hid (B3.out.trans (b4.mono B3.out.size))
   have hz4:=SA.out _ B4.out
   have y0:=jC hb4 0
   have y1:=jC hb4 1
   have y2:=jC hb4 2
   have y3:=jC hb4 3
   have y4:=jC hb4 4
   have y5:=jC hb4 5
   have y6:=jC hb4 6
   have y7:=jC hb4 7
   have y8:=jC hb4 8
   have y9:=jC hb4 9
   have y10:=jC hb4 10
   have y11:=jC hb4 11
   have y12:=jC hb4 12
   have y13:=jC hb4 13
   have y14:=jC hb4 14
   simp only [gT,gZ,gS] at y0 y1 y2 y3 y4 y5 y6 y7 y8 y9 y10 y11 y12 y13 y14
   have z0:=jC hz4 0
   have z1:=jC hz4 1
   have z2:=jC hz4 2
   have z3:=jC hz4 3
   have z4:=jC hz4 4
   have z5:=jC hz4 5
   have z6:=jC hz4 6
   have z7:=jC hz4 7
   have z8:=jC hz4 8
   have z9:=jC hz4 9
   have z10:=jC hz4 10
   have z11:=jC hz4 11
   have z12:=jC hz4 12
   have z13:=jC hz4 13
   have z14:=jC hz4 14
   simp only [gT,gZ,gS] at z0 z1 z2 z3 z4 z5 z6 z7 z8 z9 z10 z11 z12 z13 z14
   obtain ⟨bo,hbo⟩:∃ b,b=rightM s0:=⟨_,rfl⟩
   have HBO:=hid hbo
   have con3:Calls Tryz.prog 13 #[.agg #[.int .i64 sk,.string stb,.string snm,.slice a0 scols.length a00,.slice a1 snames.length a11,.slice a2 srow.length a22,.slice a3 ssets.length a33,.slice a4 swher.length a44,.string sj,.string sl,.string sr,.int .i64 sa,.slice a5 sorder.length a55,.int .i64 sm,.int .i64 sn],.agg #[.int .i64 tk,.string ttb,.string tnm,.slice d0 tcols.length d00,.slice d1 tnames.length d11,.slice d2 trow.length d22,.slice d3 tsets.length d33,.slice d4 twher.length d44,.string tj,.string tl,.string tr,.int .i64 ta,.slice d5 torder.length d55,.int .i64 tm,.int .i64 tn]] W4 (fun e w'=>e=.returned (.bool bo)/\Below W4.heap.size W4 w') :=
    (same_any (s:=⟨sk,stb,snm,scols,snames,srow,ssets,swher,sj,sl,sr,sa,sorder,sm,sn⟩) (t:=⟨tk,ttb,tnm,tcols,tnames,trow,tsets,twher,tj,tl,tr,ta,torder,tm,tn⟩) (L:=⟨.slice a0 scols.length a00,.slice a1 snames.length a11,.slice a2 srow.length a22,.slice a3 ssets.length a33,.slice a4 swher.length a44,.slice a5 sorder.length a55⟩) (M:=⟨.slice d0 tcols.length d00,.slice d1 tnames.length d11,.slice d2 trow.length d22,.slice d3 tsets.length d33,.slice d4 twher.length d44,.slice d5 torder.length d55⟩) (LA.out _ B4.out) (hl2.below b4)).mono fun e w' h=>⟨h.1.trans (by rw [HBO.out,HR.out,HS0.out]),h.2⟩
   clear hbo
   clear hl2 b4 hb4 hz4
   go_wp2_with fail
   refine con3.mono ?_
   rintro e w5 ⟨rfl,b5⟩
   have B5:=hid (B4.out.trans (b5.mono B4.out.size))
   clear con3 b5 z0 z1 z2 z3 z4 z5 z6 z7 z8 z9 z10 z11 z12 z13 z14 y0 y1 y2 y3 y4 y5 y6 y7 y8 y9 y10 y11 y12 y13 y14
   go_wp2_with fail
   rw [HPST.out]
   refine ⟨?_,B1.out.trans (B5.out.mono B1.out.size)⟩
   rw [<- HS0.out,<- HBO.out]
   try rfl
 · have HR:=hid (show rightM s0=false by
    unfold rightM
    rw [show printedM s0=PR by rw [HS0.out];exact HPR.out.symm,hpm])
   have hd9:(c9 == 0)=false:=by simpa using hne
   clear hpm con2 h3 b3 hl2 hne
   obtain ⟨tk,ttb,tnm,tcols,tnames,trow,tsets,twher,tj,tl,tr,ta,torder,tm,tn⟩:=q
   simp only [stC] at *
   obtain ⟨W4,hW4⟩:∃ W,w3.alloc (.cells #[.int .i64 tk,.string ttb,.string tnm,.slice d0 tcols.length d00,.slice d1 tnames.length d11,.slice d2 trow.length d22,.slice d3 tsets.length d33,.slice d4 twher.length d44,.string tj,.string tl,.string tr,.int .i64 ta,.slice d5 torder.length d55,.int .i64 tm,.int .i64 tn] 33)=W:=⟨_,rfl⟩
   have b4:Below w3.heap.size w3 W4:=by rw [<- hW4];exact (b0R).alloc (jR _) _
   have B4:=hid (B3.out.trans (b4.mono B3.out.size))
   clear b4
   go_wp2_with fail
   rw [HPST.out]
   refine ⟨?_,B1.out.trans (B4.out.mono B1.out.size)⟩
   rw [<- HS0.out,HR.out]
   try rfl
theorem print_any {p:Nat->Prop} {L:Lists} {s:Stmt} {w:World} (he:EnvL w) (hs:SlsAt p w L s) (ok:StOk s) (hsz:(printedM s).size<=4294967000) :
 Calls Tryz.prog 7 #[.agg (stC L s)] w fun e w'=>e=.returned (.string (printM s))/\Below w.heap.size w w':=by
 obtain ⟨Pst,hPst⟩:∃ Pst,Pst=fun (e:Ending) (w':World)=>e=.returned (.string (printM s))/\Below w.heap.size w w':=⟨_,rfl⟩
 have HPST:=hid hPst
 rw [<- hPst]
 obtain ⟨⟨a0,a00,e1⟩,⟨a1,a11,e2⟩,⟨a2,a22,e3⟩,⟨a3,a33,e4⟩,⟨a4,a44,e5⟩,⟨a5,a55,e6⟩⟩:=hs.shapes
 obtain ⟨Lc,Ln,Lr,Ls,Lw,Lo⟩:=L
 simp only at e1 e2 e3 e4 e5 e6
 subst e1 e2 e3 e4 e5 e6
 obtain ⟨PR,hPR⟩:∃ P,P=printedM s:=⟨_,rfl⟩
 have HPR:=hid hPR
 obtain ⟨s0,hs0⟩:∃ x,x=s:=⟨_,rfl⟩
 have HS0:=hid hs0
 have HSZ:=hid hsz
 have HOK:=hid ok
 rw [<- hPR] at hsz
 clear hPR hs0
 obtain ⟨sk,stb,snm,scols,snames,srow,ssets,swher,sj,sl,sr,sa,sorder,sm,sn⟩:=s
 simp only at hs
 simp only [stC]
 obtain ⟨W1,hW1⟩:∃ W,w.alloc (.cells #[.int .i64 sk,.string stb,.string snm,.slice a0 scols.length a00,.slice a1 snames.length a11,.slice a2 srow.length a22,.slice a3 ssets.length a33,.slice a4 swher.length a44,.string sj,.string sl,.string sr,.int .i64 sa,.slice a5 sorder.length a55,.int .i64 sm,.int .i64 sn] 33)=W:=⟨_,rfl⟩
 have h1s:W1.heap.size=w.heap.size+1:=by rw [<- hW1];simp
 have b1:Below w.heap.size w W1:=by rw [<- hW1];exact (b0R).alloc (jR _) _
 have hb0:W1.heap[w.heap.size]? = some (.cells #[.int .i64 sk,.string stb,.string snm,.slice a0 scols.length a00,.slice a1 snames.length a11,.slice a2 srow.length a22,.slice a3 ssets.length a33,.slice a4 swher.length a44,.string sj,.string sl,.string sr,.int .i64 sa,.slice a5 sorder.length a55,.int .i64 sm,.int .i64 sn] 33 (0,0)):=by rw [<- hW1];exact heap_alloc_new _ _
 have B1:=hid b1
 have SA:=hid (show ∀ w',Below W1.heap.size W1 w'->w'.heap[w.heap.size]? = some (.cells #[.int .i64 sk,.string stb,.string snm,.slice a0 scols.length a00,.slice a1 snames.length a11,.slice a2 srow.length a22,.slice a3 ssets.length a33,.slice a4 swher.length a44,.string sj,.string sl,.string sr,.int .i64 sa,.slice a5 sorder.length a55,.int .i64 sm,.int .i64 sn] 33 (0,0)) from fun w' h=>(h.block _ (jB hb0)).trans hb0)
 have LA:=hid (show ∀ w',Below W1.heap.size W1 w'->SlsAt p w' ⟨.slice a0 scols.length a00,.slice a1 snames.length a11,.slice a2 srow.length a22,.slice a3 ssets.length a33,.slice a4 swher.length a44,.slice a5 sorder.length a55⟩ ⟨sk,stb,snm,scols,snames,srow,ssets,swher,sj,sl,sr,sa,sorder,sm,sn⟩ from fun w' h=>(hs.below b1).below h)
 have HE:=hid (he.below b1)
 have z0:=jC hb0 0
 have z1:=jC hb0 1
 have z2:=jC hb0 2
 have z3:=jC hb0 3
 have z4:=jC hb0 4
 have z5:=jC hb0 5
 have z6:=jC hb0 6
 have z7:=jC hb0 7
 have z8:=jC hb0 8
 have z9:=jC hb0 9
 have z10:=jC hb0 10
 have z11:=jC hb0 11
 have z12:=jC hb0 12
 have z13:=jC hb0 13
 have z14:=jC hb0 14
 simp only [gT,gZ,gS] at z0 z1 z2 z3 z4 z5 z6 z7 z8 z9 z10 z11 z12 z13 z14
 have con:=right_any (L:=⟨.slice a0 scols.length a00,.slice a1 snames.length a11,.slice a2 srow.length a22,.slice a3 ssets.length a33,.slice a4 swher.length a44,.slice a5 sorder.length a55⟩) (s:=⟨sk,stb,snm,scols,snames,srow,ssets,swher,sj,sl,sr,sa,sorder,sm,sn⟩) HE.out (LA.out _ b0R) HOK.out HSZ.out
 clear hPst hs b1 hb0 he ok hsz
 go_enter Tryz.func7,Tryz.ntmps7
 go_wp2_with fail
 refine con.mono ?_
 rintro e w2 ⟨rfl,b2⟩
 have B2:=hid b2
 clear con b2 z0 z1 z2 z3 z4 z5 z6 z7 z8 z9 z10 z11 z12 z13 z14
 cases hr:rightM ⟨sk,stb,snm,scols,snames,srow,ssets,swher,sj,sl,sr,sa,sorder,sm,sn⟩ with
 | false =>
  have HR:=hid hr
  clear hr
  go_wp2_with fail
  rw [HPST.out]
  refine ⟨?_,B1.out.trans (B2.out.mono B1.out.size)⟩
  unfold printM
  rw [HR.out]
  try rfl
 | true =>
  have HR:=hid hr
  have hz2:=SA.out _ B2.out
  have z0:=jC hz2 0
  have z1:=jC hz2 1
  have z2:=jC hz2 2
  have z3:=jC hz2 3
  have z4:=jC hz2 4
  have z5:=jC hz2 5
  have z6:=jC hz2 6
  have z7:=jC hz2 7
  have z8:=jC hz2 8
  have z9:=jC hz2 9
  have z10:=jC hz2 10
  have z11:=jC hz2 11
  have z12:=jC hz2 12
  have z13:=jC hz2 13
  have z14:=jC hz2 14
  simp only [gT,gZ,gS] at z0 z1 z2 z3 z4 z5 z6 z7 z8 z9 z10 z11 z12 z13 z14
  have con2:=printed_any (L:=⟨.slice a0 scols.length a00,.slice a1 snames.length a11,.slice a2 srow.length a22,.slice a3 ssets.length a33,.slice a4 swher.length a44,.slice a5 sorder.length a55⟩) (s:=⟨sk,stb,snm,scols,snames,srow,ssets,swher,sj,sl,sr,sa,sorder,sm,sn⟩) (HE.out.below B2.out) (LA.out _ B2.out) HOK.out HSZ.out
  rw [<- HPR.out] at con2
  clear hr hz2
  go_wp2_with fail
  refine con2.mono ?_
  rintro e w3 ⟨rfl,b3⟩
  have B3:=hid (B2.out.trans (b3.mono B2.out.size))
  clear con2 b3 z0 z1 z2 z3 z4 z5 z6 z7 z8 z9 z10 z11 z12 z13 z14
  go_wp2_with fail
  rw [HPST.out]
  refine ⟨?_,B1.out.trans (B3.out.mono B1.out.size)⟩
  unfold printM
  rw [HR.out,if_pos rfl,<- HPR.out]
  try rfl
end
end Go.Proofs.YtjcpccadmcglgaaGreatDoor
