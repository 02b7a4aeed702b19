/- Same: whether two statements are equal. -/
import Derived.Test.YtjcpccadmcglgaaGreatDoorZK32
import Derived.Test.YtjcpccadmcglgaaGreatDoorZK35
set_option linter.unusedVariables false
set_option linter.unusedSimpArgs false
set_option maxRecDepth 100000
set_option maxHeartbeats 64000000
namespace Go.Proofs.YtjcpccadmcglgaaGreatDoor
open Go.Lib (hid)
section
open Go.RowKit
theorem same_any {p q:Nat->Prop} {L M:Lists} {s t:Stmt} {w:World} (hs:SlsAt p w L s) (ht:SlsAt q w M t) :
 Calls Tryz.prog 13 #[.agg (stC L s),.agg (stC M t)] w fun e w'=>e=.returned (.bool (decide (s=t)))/\Below w.heap.size w w':=by
 obtain ⟨Pst,hPst⟩:∃ Pst,Pst=fun (e:Ending) (w':World)=>e=.returned (.bool (decide (s=t)))/\Below w.heap.size w w':=⟨_,rfl⟩
 have HPST:=hid hPst
 rw [<- hPst]
 obtain ⟨⟨a0,a00,e1⟩,⟨a1,a11,e2⟩,⟨a2,a22,e3⟩,⟨a3,a33,e4⟩,⟨a4,a44,e5⟩,⟨a5,a55,e6⟩⟩:=hs.shapes
 obtain ⟨Lc,Ln,Lr,Ls,Lw,Lo⟩:=L
 simp only at e1 e2 e3 e4 e5 e6
 subst e1 e2 e3 e4 e5 e6
 obtain ⟨⟨b0,b00,e1⟩,⟨b1,b11,e2⟩,⟨b2,b22,e3⟩,⟨b3,b33,e4⟩,⟨b4,b44,e5⟩,⟨b5,b55,e6⟩⟩:=ht.shapes
 obtain ⟨Lc,Ln,Lr,Ls,Lw,Lo⟩:=M
 simp only at e1 e2 e3 e4 e5 e6
 subst e1 e2 e3 e4 e5 e6
 obtain ⟨sk,stb,snm,scols,snames,srow,ssets,swher,sj,sl,sr,sa,sorder,sm,sn⟩:=s
 obtain ⟨tk,ttb,tnm,tcols,tnames,trow,tsets,twher,tj,tl,tr,ta,torder,tm,tn⟩:=t
 simp only at hs ht
 simp only [stC]
 obtain ⟨W1,hW1⟩:∃ W,w.alloc (.cells #[.int .i64 sk,.string stb,.string snm,.slice a0 scols.length a00,.slice a1 snames.length a11,.slice a2 srow.length a22,.slice a3 ssets.length a33,.slice a4 swher.length a44,.string sj,.string sl,.string sr,.int .i64 sa,.slice a5 sorder.length a55,.int .i64 sm,.int .i64 sn] 33)=W:=⟨_,rfl⟩
 obtain ⟨W2,hW2⟩:∃ W,W1.alloc (.cells #[.int .i64 tk,.string ttb,.string tnm,.slice b0 tcols.length b00,.slice b1 tnames.length b11,.slice b2 trow.length b22,.slice b3 tsets.length b33,.slice b4 twher.length b44,.string tj,.string tl,.string tr,.int .i64 ta,.slice b5 torder.length b55,.int .i64 tm,.int .i64 tn] 33)=W:=⟨_,rfl⟩
 have h1s:W1.heap.size=w.heap.size+1:=by rw [<- hW1];simp
 have h2s:W2.heap.size=w.heap.size+2:=by rw [<- hW2];simp [h1s]
 have bw2:Below w.heap.size w W2:=by rw [<- hW2,<- hW1];exact ((b0R).alloc (jR _) _).alloc (by simp) _
 have hb0:W2.heap[w.heap.size]? = some (.cells #[.int .i64 sk,.string stb,.string snm,.slice a0 scols.length a00,.slice a1 snames.length a11,.slice a2 srow.length a22,.slice a3 ssets.length a33,.slice a4 swher.length a44,.string sj,.string sl,.string sr,.int .i64 sa,.slice a5 sorder.length a55,.int .i64 sm,.int .i64 sn] 33 (0,0)):=by rw [<- hW2,heap_alloc_old _ _ (by omega),<- hW1];exact heap_alloc_new _ _
 have hb1:W2.heap[w.heap.size+1]? = some (.cells #[.int .i64 tk,.string ttb,.string tnm,.slice b0 tcols.length b00,.slice b1 tnames.length b11,.slice b2 trow.length b22,.slice b3 tsets.length b33,.slice b4 twher.length b44,.string tj,.string tl,.string tr,.int .i64 ta,.slice b5 torder.length b55,.int .i64 tm,.int .i64 tn] 33 (0,0)):=by rw [<- hW2,<- h1s];exact heap_alloc_new _ _
 have B2:=hid bw2
 have SA:=hid (show ∀ w',Below W2.heap.size W2 w'->w'.heap[w.heap.size]? = some (.cells #[.int .i64 sk,.string stb,.string snm,.slice a0 scols.length a00,.slice a1 snames.length a11,.slice a2 srow.length a22,.slice a3 ssets.length a33,.slice a4 swher.length a44,.string sj,.string sl,.string sr,.int .i64 sa,.slice a5 sorder.length a55,.int .i64 sm,.int .i64 sn] 33 (0,0)) from fun w' h=>(h.block _ (jB hb0)).trans hb0)
 have SB:=hid (show ∀ w',Below W2.heap.size W2 w'->w'.heap[w.heap.size+1]? = some (.cells #[.int .i64 tk,.string ttb,.string tnm,.slice b0 tcols.length b00,.slice b1 tnames.length b11,.slice b2 trow.length b22,.slice b3 tsets.length b33,.slice b4 twher.length b44,.string tj,.string tl,.string tr,.int .i64 ta,.slice b5 torder.length b55,.int .i64 tm,.int .i64 tn] 33 (0,0)) from fun w' h=>(h.block _ (jB hb1)).trans hb1)
 have LA:=hid (show ∀ w',Below W2.heap.size W2 w'->SlsAt p w' ⟨.slice a0 scols.length a00,.slice a1 snames.length a11,.slice a2 srow.length a22,.slice a3 ssets.length a33,.slice a4 swher.length a44,.slice a5 sorder.length a55⟩ ⟨sk,stb,snm,scols,snames,srow,ssets,swher,sj,sl,sr,sa,sorder,sm,sn⟩ from fun w' h=>(hs.below bw2).below h)
 have LB:=hid (show ∀ w',Below W2.heap.size W2 w'->SlsAt q w' ⟨.slice b0 tcols.length b00,.slice b1 tnames.length b11,.slice b2 trow.length b22,.slice b3 tsets.length b33,.slice b4 twher.length b44,.slice b5 torder.length b55⟩ ⟨tk,ttb,tnm,tcols,tnames,trow,tsets,twher,tj,tl,tr,ta,torder,tm,tn⟩ from fun w' h=>(ht.below bw2).below h)
 have K2:=hid (Below.refl W2.heap.size W2)
 have x0:=jC hb0 0
 have y0:=jC hb1 0
 have x1:=jC hb0 1
 have y1:=jC hb1 1
 have x2:=jC hb0 2
 have y2:=jC hb1 2
 have x8:=jC hb0 8
 have y8:=jC hb1 8
 have x9:=jC hb0 9
 have y9:=jC hb1 9
 have x10:=jC hb0 10
 have y10:=jC hb1 10
 have x11:=jC hb0 11
 have y11:=jC hb1 11
 have x13:=jC hb0 13
 have y13:=jC hb1 13
 have x14:=jC hb0 14
 have y14:=jC hb1 14
 simp only [gT,gZ,gS] at x0 y0 x1 y1 x2 y2 x8 y8 x9 y9 x10 y10 x11 y11 x13 y13 x14 y14
 clear hPst hs ht bw2 hb0 hb1
 cases h0:(sk == tk) with
 | false =>
  have NE:=hid (show ¬ (⟨sk,stb,snm,scols,snames,srow,ssets,swher,sj,sl,sr,sa,sorder,sm,sn⟩:Stmt)=⟨tk,ttb,tnm,tcols,tnames,trow,tsets,twher,tj,tl,tr,ta,torder,tm,tn⟩ from fun e=>(by simpa using h0:¬ sk=tk) (by simpa using congrArg Stmt.kind e))
  go_enter Tryz.func13,Tryz.ntmps13
  go_wp2_with fail
  rw [HPST.out]
  exact ⟨by rw [decide_eq_false NE.out];rfl,B2.out⟩
 | true =>
  cases h1:(stb.toList == ttb.toList) with
  | false =>
   have NE:=hid (show ¬ (⟨sk,stb,snm,scols,snames,srow,ssets,swher,sj,sl,sr,sa,sorder,sm,sn⟩:Stmt)=⟨tk,ttb,tnm,tcols,tnames,trow,tsets,twher,tj,tl,tr,ta,torder,tm,tn⟩ from fun e=>bytes_ne h1 (by simpa using congrArg Stmt.table e))
   go_enter Tryz.func13,Tryz.ntmps13
   go_wp2_with fail
   rw [HPST.out]
   exact ⟨by rw [decide_eq_false NE.out];rfl,B2.out⟩
  | true =>
   cases h2:(snm.toList == tnm.toList) with
   | false =>
    have NE:=hid (show ¬ (⟨sk,stb,snm,scols,snames,srow,ssets,swher,sj,sl,sr,sa,sorder,sm,sn⟩:Stmt)=⟨tk,ttb,tnm,tcols,tnames,trow,tsets,twher,tj,tl,tr,ta,torder,tm,tn⟩ from fun e=>bytes_ne h2 (by simpa using congrArg Stmt.name e))
    go_enter Tryz.func13,Tryz.ntmps13
    go_wp2_with fail
    rw [HPST.out]
    exact ⟨by rw [decide_eq_false NE.out];rfl,B2.out⟩
   | true =>
    cases h3:(sj.toList == tj.toList) with
    | false =>
     have NE:=hid (show ¬ (⟨sk,stb,snm,scols,snames,srow,ssets,swher,sj,sl,sr,sa,sorder,sm,sn⟩:Stmt)=⟨tk,ttb,tnm,tcols,tnames,trow,tsets,twher,tj,tl,tr,ta,torder,tm,tn⟩ from fun e=>bytes_ne h3 (by simpa using congrArg Stmt.join e))
     go_enter Tryz.func13,Tryz.ntmps13
     go_wp2_with fail
     rw [HPST.out]
     exact ⟨by rw [decide_eq_false NE.out];rfl,B2.out⟩
    | true =>
     cases h4:(sl.toList == tl.toList) with
     | false =>
      have NE:=hid (show ¬ (⟨sk,stb,snm,scols,snames,srow,ssets,swher,sj,sl,sr,sa,sorder,sm,sn⟩:Stmt)=⟨tk,ttb,tnm,tcols,tnames,trow,tsets,twher,tj,tl,tr,ta,torder,tm,tn⟩ from fun e=>bytes_ne h4 (by simpa using congrArg Stmt.left e))
      go_enter Tryz.func13,Tryz.ntmps13
      go_wp2_with fail
      rw [HPST.out]
      exact ⟨by rw [decide_eq_false NE.out];rfl,B2.out⟩
     | true =>
      cases h5:(sr.toList == tr.toList) with
      | false =>
       have NE:=hid (show ¬ (⟨sk,stb,snm,scols,snames,srow,ssets,swher,sj,sl,sr,sa,sorder,sm,sn⟩:Stmt)=⟨tk,ttb,tnm,tcols,tnames,trow,tsets,twher,tj,tl,tr,ta,torder,tm,tn⟩ from fun e=>bytes_ne h5 (by simpa using congrArg Stmt.right e))
       go_enter Tryz.func13,Tryz.ntmps13
       go_wp2_with fail
       rw [HPST.out]
       exact ⟨by rw [decide_eq_false NE.out];rfl,B2.out⟩
      | true =>
       cases h6:(sa == ta) with
       | false =>
        have NE:=hid (show ¬ (⟨sk,stb,snm,scols,snames,srow,ssets,swher,sj,sl,sr,sa,sorder,sm,sn⟩:Stmt)=⟨tk,ttb,tnm,tcols,tnames,trow,tsets,twher,tj,tl,tr,ta,torder,tm,tn⟩ from fun e=>(by simpa using h6:¬ sa=ta) (by simpa using congrArg Stmt.agg e))
        go_enter Tryz.func13,Tryz.ntmps13
        go_wp2_with fail
        rw [HPST.out]
        exact ⟨by rw [decide_eq_false NE.out];rfl,B2.out⟩
       | true =>
        cases h7:(sm == tm) with
        | false =>
         have NE:=hid (show ¬ (⟨sk,stb,snm,scols,snames,srow,ssets,swher,sj,sl,sr,sa,sorder,sm,sn⟩:Stmt)=⟨tk,ttb,tnm,tcols,tnames,trow,tsets,twher,tj,tl,tr,ta,torder,tm,tn⟩ from fun e=>(by simpa using h7:¬ sm=tm) (by simpa using congrArg Stmt.mode e))
         go_enter Tryz.func13,Tryz.ntmps13
         go_wp2_with fail
         rw [HPST.out]
         exact ⟨by rw [decide_eq_false NE.out];rfl,B2.out⟩
        | true =>
         cases h8:(sn == tn) with
         | false =>
          have NE:=hid (show ¬ (⟨sk,stb,snm,scols,snames,srow,ssets,swher,sj,sl,sr,sa,sorder,sm,sn⟩:Stmt)=⟨tk,ttb,tnm,tcols,tnames,trow,tsets,twher,tj,tl,tr,ta,torder,tm,tn⟩ from fun e=>(by simpa using h8:¬ sn=tn) (by simpa using congrArg Stmt.n e))
          go_enter Tryz.func13,Tryz.ntmps13
          go_wp2_with fail
          rw [HPST.out]
          exact ⟨by rw [decide_eq_false NE.out];rfl,B2.out⟩
         | true =>
          have FE:=hid (show sk=tk/\stb=ttb/\snm=tnm/\sj=tj/\sl=tl/\sr=tr/\sa=ta/\sm=tm/\sn=tn from ⟨(by simpa using h0:sk=tk),bytes_eq h1,bytes_eq h2,bytes_eq h3,bytes_eq h4,bytes_eq h5,(by simpa using h6:sa=ta),(by simpa using h7:sm=tm),(by simpa using h8:sn=tn)⟩)
          go_enter Tryz.func13,Tryz.ntmps13
          go_upto_region 2 with (fail)
          clear x0 y0 h0 x1 y1 h1 x2 y2 h2 x8 y8 h3 x9 y9 h4 x10 y10 h5 x11 y11 h6 x13 y13 h7 x14 y14 h8
          by_cases g0:scols=tcols
          rotate_left
          · have GN:=hid g0
            have NE:=hid (show ¬ (⟨sk,stb,snm,scols,snames,srow,ssets,swher,sj,sl,sr,sa,sorder,sm,sn⟩:Stmt)=⟨tk,ttb,tnm,tcols,tnames,trow,tsets,twher,tj,tl,tr,ta,torder,tm,tn⟩ from fun e=>GN.out (by simpa using congrArg Stmt.cols e))
            clear g0
            have x3:=jC (SA.out _ K2.out) 3
            have y3:=jC (SB.out _ K2.out) 3
            simp only [gT,gZ,gS] at x3 y3
            have con:Calls Tryz.prog 30 #[.slice a0 scols.length a00,.slice b0 tcols.length b00] W2 (fun e w'=>e=.returned (.bool false)/\Below W2.heap.size W2 w') :=
             (eqcol_any (LA.out _ K2.out).cols (LB.out _ K2.out).cols).mono fun e w' h=>⟨h.1.trans (by rw [decide_eq_false GN.out]),h.2⟩
            go_wp2_with fail
            refine con.mono ?_
            rintro e v1 ⟨rfl,k9⟩
            have K3:=hid (K2.out.trans (k9.mono K2.out.size))
            clear con k9 x3 y3
            go_wp2_with fail
            rw [HPST.out]
            exact ⟨by rw [decide_eq_false NE.out];rfl,B2.out.trans (K3.out.mono B2.out.size)⟩
          have GE0:=hid g0
          clear g0
          have x3:=jC (SA.out _ K2.out) 3
          have y3:=jC (SB.out _ K2.out) 3
          simp only [gT,gZ,gS] at x3 y3
          have con:Calls Tryz.prog 30 #[.slice a0 scols.length a00,.slice b0 tcols.length b00] W2 (fun e w'=>e=.returned (.bool true)/\Below W2.heap.size W2 w') :=
           (eqcol_any (LA.out _ K2.out).cols (LB.out _ K2.out).cols).mono fun e w' h=>⟨h.1.trans (by rw [decide_eq_true GE0.out]),h.2⟩
          go_wp2_with fail
          refine con.mono ?_
          rintro e v1 ⟨rfl,k9⟩
          have K3:=hid (K2.out.trans (k9.mono K2.out.size))
          clear con k9 x3 y3
          by_cases g1:snames=tnames
          rotate_left
          · have GN:=hid g1
            have NE:=hid (show ¬ (⟨sk,stb,snm,scols,snames,srow,ssets,swher,sj,sl,sr,sa,sorder,sm,sn⟩:Stmt)=⟨tk,ttb,tnm,tcols,tnames,trow,tsets,twher,tj,tl,tr,ta,torder,tm,tn⟩ from fun e=>GN.out (by simpa using congrArg Stmt.names e))
            clear g1
            have x4:=jC (SA.out _ K3.out) 4
            have y4:=jC (SB.out _ K3.out) 4
            simp only [gT,gZ,gS] at x4 y4
            have con:Calls Tryz.prog 31 #[.slice a1 snames.length a11,.slice b1 tnames.length b11] v1 (fun e w'=>e=.returned (.bool false)/\Below v1.heap.size v1 w') :=
             (eqstr_any (LA.out _ K3.out).names (LB.out _ K3.out).names).mono fun e w' h=>⟨h.1.trans (by rw [decide_eq_false GN.out]),h.2⟩
            go_wp2_with fail
            refine con.mono ?_
            rintro e v2 ⟨rfl,k9⟩
            have K4:=hid (K3.out.trans (k9.mono K3.out.size))
            clear con k9 x4 y4
            go_wp2_with fail
            rw [HPST.out]
            exact ⟨by rw [decide_eq_false NE.out];rfl,B2.out.trans (K4.out.mono B2.out.size)⟩
          have GE1:=hid g1
          clear g1
          have x4:=jC (SA.out _ K3.out) 4
          have y4:=jC (SB.out _ K3.out) 4
          simp only [gT,gZ,gS] at x4 y4
          have con:Calls Tryz.prog 31 #[.slice a1 snames.length a11,.slice b1 tnames.length b11] v1 (fun e w'=>e=.returned (.bool true)/\Below v1.heap.size v1 w') :=
           (eqstr_any (LA.out _ K3.out).names (LB.out _ K3.out).names).mono fun e w' h=>⟨h.1.trans (by rw [decide_eq_true GE1.out]),h.2⟩
          go_wp2_with fail
          refine con.mono ?_
          rintro e v2 ⟨rfl,k9⟩
          have K4:=hid (K3.out.trans (k9.mono K3.out.size))
          clear con k9 x4 y4
          by_cases g2:srow=trow
          rotate_left
          · have GN:=hid g2
            have NE:=hid (show ¬ (⟨sk,stb,snm,scols,snames,srow,ssets,swher,sj,sl,sr,sa,sorder,sm,sn⟩:Stmt)=⟨tk,ttb,tnm,tcols,tnames,trow,tsets,twher,tj,tl,tr,ta,torder,tm,tn⟩ from fun e=>GN.out (by simpa using congrArg Stmt.row e))
            clear g2
            have x5:=jC (SA.out _ K4.out) 5
            have y5:=jC (SB.out _ K4.out) 5
            simp only [gT,gZ,gS] at x5 y5
            have con:Calls Tryz.prog 32 #[.slice a2 srow.length a22,.slice b2 trow.length b22] v2 (fun e w'=>e=.returned (.bool false)/\Below v2.heap.size v2 w') :=
             (eqval_any (LA.out _ K4.out).row (LB.out _ K4.out).row).mono fun e w' h=>⟨h.1.trans (by rw [decide_eq_false GN.out]),h.2⟩
            go_wp2_with fail
            refine con.mono ?_
            rintro e v3 ⟨rfl,k9⟩
            have K5:=hid (K4.out.trans (k9.mono K4.out.size))
            clear con k9 x5 y5
            go_wp2_with fail
            rw [HPST.out]
            exact ⟨by rw [decide_eq_false NE.out];rfl,B2.out.trans (K5.out.mono B2.out.size)⟩
          have GE2:=hid g2
          clear g2
          have x5:=jC (SA.out _ K4.out) 5
          have y5:=jC (SB.out _ K4.out) 5
          simp only [gT,gZ,gS] at x5 y5
          have con:Calls Tryz.prog 32 #[.slice a2 srow.length a22,.slice b2 trow.length b22] v2 (fun e w'=>e=.returned (.bool true)/\Below v2.heap.size v2 w') :=
           (eqval_any (LA.out _ K4.out).row (LB.out _ K4.out).row).mono fun e w' h=>⟨h.1.trans (by rw [decide_eq_true GE2.out]),h.2⟩
          go_wp2_with fail
          refine con.mono ?_
          rintro e v3 ⟨rfl,k9⟩
          have K5:=hid (K4.out.trans (k9.mono K4.out.size))
          clear con k9 x5 y5
          by_cases g3:ssets=tsets
          rotate_left
          · have GN:=hid g3
            have NE:=hid (show ¬ (⟨sk,stb,snm,scols,snames,srow,ssets,swher,sj,sl,sr,sa,sorder,sm,sn⟩:Stmt)=⟨tk,ttb,tnm,tcols,tnames,trow,tsets,twher,tj,tl,tr,ta,torder,tm,tn⟩ from fun e=>GN.out (by simpa using congrArg Stmt.sets e))
            clear g3
            have x6:=jC (SA.out _ K5.out) 6
            have y6:=jC (SB.out _ K5.out) 6
            simp only [gT,gZ,gS] at x6 y6
            have con:Calls Tryz.prog 33 #[.slice a3 ssets.length a33,.slice b3 tsets.length b33] v3 (fun e w'=>e=.returned (.bool false)/\Below v3.heap.size v3 w') :=
             (eqset_any (LA.out _ K5.out).sets (LB.out _ K5.out).sets).mono fun e w' h=>⟨h.1.trans (by rw [decide_eq_false GN.out]),h.2⟩
            go_wp2_with fail
            refine con.mono ?_
            rintro e v4 ⟨rfl,k9⟩
            have K6:=hid (K5.out.trans (k9.mono K5.out.size))
            clear con k9 x6 y6
            go_wp2_with fail
            rw [HPST.out]
            exact ⟨by rw [decide_eq_false NE.out];rfl,B2.out.trans (K6.out.mono B2.out.size)⟩
          have GE3:=hid g3
          clear g3
          have x6:=jC (SA.out _ K5.out) 6
          have y6:=jC (SB.out _ K5.out) 6
          simp only [gT,gZ,gS] at x6 y6
          have con:Calls Tryz.prog 33 #[.slice a3 ssets.length a33,.slice b3 tsets.length b33] v3 (fun e w'=>e=.returned (.bool true)/\Below v3.heap.size v3 w') :=
           (eqset_any (LA.out _ K5.out).sets (LB.out _ K5.out).sets).mono fun e w' h=>⟨h.1.trans (by rw [decide_eq_true GE3.out]),h.2⟩
          go_wp2_with fail
          refine con.mono ?_
          rintro e v4 ⟨rfl,k9⟩
          have K6:=hid (K5.out.trans (k9.mono K5.out.size))
          clear con k9 x6 y6
          by_cases g4:swher=twher
          rotate_left
          · have GN:=hid g4
            have NE:=hid (show ¬ (⟨sk,stb,snm,scols,snames,srow,ssets,swher,sj,sl,sr,sa,sorder,sm,sn⟩:Stmt)=⟨tk,ttb,tnm,tcols,tnames,trow,tsets,twher,tj,tl,tr,ta,torder,tm,tn⟩ from fun e=>GN.out (by simpa using congrArg Stmt.wher e))
            clear g4
            have x7:=jC (SA.out _ K6.out) 7
            have y7:=jC (SB.out _ K6.out) 7
            simp only [gT,gZ,gS] at x7 y7
            have con:Calls Tryz.prog 34 #[.slice a4 swher.length a44,.slice b4 twher.length b44] v4 (fun e w'=>e=.returned (.bool false)/\Below v4.heap.size v4 w') :=
             (eqcond_any (LA.out _ K6.out).wher (LB.out _ K6.out).wher).mono fun e w' h=>⟨h.1.trans (by rw [decide_eq_false GN.out]),h.2⟩
            go_wp2_with fail
            refine con.mono ?_
            rintro e v5 ⟨rfl,k9⟩
            have K7:=hid (K6.out.trans (k9.mono K6.out.size))
            clear con k9 x7 y7
            go_wp2_with fail
            rw [HPST.out]
            exact ⟨by rw [decide_eq_false NE.out];rfl,B2.out.trans (K7.out.mono B2.out.size)⟩
          have GE4:=hid g4
          clear g4
          have x7:=jC (SA.out _ K6.out) 7
          have y7:=jC (SB.out _ K6.out) 7
          simp only [gT,gZ,gS] at x7 y7
          have con:Calls Tryz.prog 34 #[.slice a4 swher.length a44,.slice b4 twher.length b44] v4 (fun e w'=>e=.returned (.bool true)/\Below v4.heap.size v4 w') :=
           (eqcond_any (LA.out _ K6.out).wher (LB.out _ K6.out).wher).mono fun e w' h=>⟨h.1.trans (by rw [decide_eq_true GE4.out]),h.2⟩
          go_wp2_with fail
          refine con.mono ?_
          rintro e v5 ⟨rfl,k9⟩
          have K7:=hid (K6.out.trans (k9.mono K6.out.size))
          clear con k9 x7 y7
          by_cases g5:sorder=torder
          rotate_left
          · have GN:=hid g5
            have NE:=hid (show ¬ (⟨sk,stb,snm,scols,snames,srow,ssets,swher,sj,sl,sr,sa,sorder,sm,sn⟩:Stmt)=⟨tk,ttb,tnm,tcols,tnames,trow,tsets,twher,tj,tl,tr,ta,torder,tm,tn⟩ from fun e=>GN.out (by simpa using congrArg Stmt.order e))
            clear g5
            have x12:=jC (SA.out _ K7.out) 12
            have y12:=jC (SB.out _ K7.out) 12
            simp only [gT,gZ,gS] at x12 y12
            have con:Calls Tryz.prog 31 #[.slice a5 sorder.length a55,.slice b5 torder.length b55] v5 (fun e w'=>e=.returned (.bool false)/\Below v5.heap.size v5 w') :=
             (eqstr_any (LA.out _ K7.out).order (LB.out _ K7.out).order).mono fun e w' h=>⟨h.1.trans (by rw [decide_eq_false GN.out]),h.2⟩
            go_wp2_with fail
            refine con.mono ?_
            rintro e v6 ⟨rfl,k9⟩
            have K8:=hid (K7.out.trans (k9.mono K7.out.size))
            clear con k9 x12 y12
            go_wp2_with fail
            rw [HPST.out]
            exact ⟨by rw [decide_eq_false NE.out];rfl,B2.out.trans (K8.out.mono B2.out.size)⟩
          have GE5:=hid g5
          clear g5
          have x12:=jC (SA.out _ K7.out) 12
          have y12:=jC (SB.out _ K7.out) 12
          simp only [gT,gZ,gS] at x12 y12
          have con:Calls Tryz.prog 31 #[.slice a5 sorder.length a55,.slice b5 torder.length b55] v5 (fun e w'=>e=.returned (.bool true)/\Below v5.heap.size v5 w') :=
           (eqstr_any (LA.out _ K7.out).order (LB.out _ K7.out).order).mono fun e w' h=>⟨h.1.trans (by rw [decide_eq_true GE5.out]),h.2⟩
          go_wp2_with fail
          refine con.mono ?_
          rintro e v6 ⟨rfl,k9⟩
          have K8:=hid (K7.out.trans (k9.mono K7.out.size))
          clear con k9 x12 y12
          go_wp2_with fail
          rw [HPST.out]
          refine ⟨?_,B2.out.trans (K8.out.mono B2.out.size)⟩
          have e:(⟨sk,stb,snm,scols,snames,srow,ssets,swher,sj,sl,sr,sa,sorder,sm,sn⟩:Stmt)=⟨tk,ttb,tnm,tcols,tnames,trow,tsets,twher,tj,tl,tr,ta,torder,tm,tn⟩:=by
           obtain ⟨f0,f1,f2,f3,f4,f5,f6,f7,f8⟩:=FE.out
           rw [f0,f1,f2,f3,f4,f5,f6,f7,f8,GE0.out,GE1.out,GE2.out,GE3.out,GE4.out,GE5.out]
          rw [decide_eq_true e]
          rfl
end
end Go.Proofs.YtjcpccadmcglgaaGreatDoor
