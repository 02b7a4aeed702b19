/- begin. -/
import Derived.Test.YtjcpccadmcglgaaGreatDoorZK29
import Derived.Test.YtjcpccadmcglgaaGreatDoorZK28
import Derived.Test.YtjcpccadmcglgaaGreatDoorZK27
import Derived.Test.YtjcpccadmcglgaaGreatDoorZK6
import Derived.Test.YtjcpccadmcglgaaGreatDoorZK10
set_option linter.unusedVariables false
set_option linter.unusedSimpArgs false
set_option maxRecDepth 100000
set_option maxHeartbeats 64000000
namespace Go.Proofs.YtjcpccadmcglgaaGreatDoor
open Go.Lib (hid)
section
open Go.RowKit
def Rel (X:Nat->Prop) (b en:Nat) (w:World) (M:PM Unit) (S0:PS) (Φ:Stmt->Prop) (wx:World):Prop:=∃ T,M S0=.ok ((),T)/\PAt X b en T wx/\Kept X w wx/\Φ T.s
theorem may_never {xs:List ByteArray} {S:PS} {er:PErr}:mayM xs S ≠ .error er:=by
 unfold mayM
 split <;> exact fun h=>by cases h
theorem may_keeps {xs:List ByteArray} {S S':PS} {v:Bool} (h:mayM xs S=.ok (v,S')):S'.s=S.s:=by
 unfold mayM at h
 split at h <;> · cases h;rfl
theorem mode_eq (en:Nat):modeM en=PM.bind (mayM [w_read,w_committed]) fun b=>if b=true then pure () else PM.bind (mayM [w_snapshot]) fun b=>if b=true then modM fun s=>{ s with mode:=1 } else PM.bind (mayM [w_serialisable]) fun b=>if b=true then modM fun s=>{ s with mode:=2 } else readM en:=rfl
def deferM:PM Unit:=PM.bind (mayM [w_deferrable]) fun b=>if b=true then modM fun s=>{ s with mode:=s.mode+8 } else pure ()
theorem defer_eq:deferM=PM.bind (mayM [w_deferrable]) fun b=>if b=true then modM fun s=>{ s with mode:=s.mode+8 } else pure ():=rfl
def onlyM (en:Nat):PM Unit:=PM.bind (mayM [w_read]) fun b=>if b=true then PM.bind (mustM en [w_only]) fun _=>PM.bind (modM fun s=>{ s with mode:=s.mode+4 }) fun _=>deferM else deferM
theorem only_flat (en:Nat):onlyM en=PM.bind (mayM [w_read]) fun b=>if b=true then PM.bind (mustM en [w_only]) fun _=>PM.bind (modM fun s=>{ s with mode:=s.mode+4 }) fun _=>deferM else deferM:=rfl
theorem begin_flat (en:Nat) (S:PS):beginM en S=PM.bind (modM fun s=>{ s with kind:=8 }) (fun _=>PM.bind (modeM en) fun _=>onlyM en) S:=rfl
theorem begin_any {X:Nat->Prop} {b en:Nat} {S:PS} {w:World} (h:PAt X b en S w) (hz:S.s.mode=0) :
 Calls Tryz.prog 44 #[.pointer (some ⟨b,0,none⟩)] w fun e w'=>StepU X b en w (beginM en S) e w':=by
 obtain ⟨Pst,hPst⟩:∃ Pst,Pst=StepU X b en w (beginM en S):=⟨_,rfl⟩
 have HPST:=hid hPst
 rw [<- hPst]
 have NB:=hid (show ¬ X b from h.nb)
 have HK1:=hid (Kept.refl X w)
 have P1:=hid h
 have HZ0:=hid hz
 clear hz
 obtain ⟨w1,hw1⟩:∃ x,x=w:=⟨_,rfl⟩
 obtain ⟨S1,hS1⟩:∃ x,x=S:=⟨_,rfl⟩
 have HK1:=hid (show Kept X w w1 by rw [hw1];exact HK1.out)
 have P1:=hid (show PAt X b en S1 w1 by rw [hw1,hS1];exact P1.out)
 have HE1:=hid ((congrArg (beginM en) hS1.symm).trans (begin_flat en S1))
 rw [<- hw1]
 have HS1:=hid hS1
 clear h hPst hw1
 go_enter Tryz.func44,Tryz.ntmps44
 obtain ⟨_,_,L,hbx,_,_⟩:=P1.out.open
 have c2:=jC hbx 2
 have f2:=free_of hbx 2
 simp only [boxC,List.getElem?_toArray,List.getElem?_cons_zero,List.getElem?_cons_succ] at c2
 clear hbx
 have st0:=P1.out.store (j:=2) (v:=.int .i64 8) (s':={ S1.s with kind:=8 }) (fun _ _=>rfl) ⟨rfl,rfl,rfl,rfl,rfl,rfl⟩
 have P2:=hid (show PAt X b en ({ S1 with s:={ S1.s with kind:=8 } }:PS) _ from st0.1)
 have HK2:=hid (HK1.out.leaf st0.2 NB.out)
 have HE2:=hid (HE1.out.trans (bind_ok (a:=()) (S':=({ S1 with s:={ S1.s with kind:=8 } }:PS)) rfl))
 clear st0
 go_upto_block 0 with (fail)
 obtain ⟨w2,hw2⟩:∃ x,x=World.setCell (w1) ⟨b,2,none⟩ (.int .i64 8):=⟨_,rfl⟩
 obtain ⟨S2,hS2⟩:∃ T,T=({ S1 with s:={ S1.s with kind:=8 } }:PS):=⟨_,rfl⟩
 rw [<- hw2] at P2 HK2 ⊢
 rw [<- hS2] at P2 HE2
 have HS2:=hid hS2
 clear hw2 hS2 c2 f2
 have HZ2:=hid (show S2.s.mode=0 by rw [HS2.out];show S1.s.mode=0;rw [HS1.out];exact HZ0.out)
 go_upto_block 0 with (fail)
 go_cut [] from 6 to 38 (fun wx=>Rel X b en w (modeM en) S2 (fun s=>0<=s.mode/\s.mode<=2) wx)
 case first =>
  obtain ⟨S3,hS3⟩:∃ T,T=S2:=⟨_,rfl⟩
  obtain ⟨w3,hw3⟩:∃ x,x=w2:=⟨_,rfl⟩
  have P3:=hid (show PAt X b en S3 w3 by rw [hS3,hw3];exact P2.out)
  have HK3:=hid (show Kept X w w3 by rw [hw3];exact HK2.out)
  have HE3:=hid (show (modeM en) S2=(modeM en) S3 by rw [hS3])
  have HS3:=hid hS3
  rw [<- hw3]
  clear hS3 hw3
  have HZ3:=hid (show S3.s.mode=0 by rw [HS3.out];exact HZ2.out)
  have HE3:=hid (HE3.out.trans (congrFun (mode_eq en) S3))
  have con:=may_any (P3.out.below ((b0R).alloc (jR _) (.cells #[.string w_read,.string w_committed] 9))) (words_at w3 [w_read,w_committed] (by simp))
  go_wp2_with fail
  refine con.mono ?_
  rintro e w4 ⟨g,h⟩
  have HK4:=hid (HK3.out.leaf ((World.grownBy_alloc w3 (.cells #[.string w_read,.string w_committed] 9) (some b)).trans g.g) NB.out)
  clear con g
  cases hi:isB [w_read,w_committed] S3.l with
  | true =>
   rw [may_hit hi] at h
   obtain ⟨_,_,h,rfl,p4⟩|⟨_,h,_⟩:=h
   rotate_left
   · cases h
   cases h
   have P4:=hid p4
   obtain ⟨S4,hS4⟩:∃ T,T=({ S3 with l:=S3.l.drop [w_read,w_committed].length }:PS):=⟨_,rfl⟩
   have HE4:=hid ((HE3.out.trans (bind_ok (may_hit hi))).trans (congrFun (if_pos rfl) _))
   rw [<- hS4] at P4 HE4
   have HS4:=hid (show S4.s=S3.s by rw [hS4])
   clear p4 hS4 hi
   have HZ4:=hid (show S4.s.mode=0 by rw [HS4.out];exact HZ3.out)
   go_wp2_with fail
   go_meet
   exact ⟨_,HE4.out,P4.out,HK4.out,⟨by rw [HZ4.out];decide,by rw [HZ4.out];decide⟩⟩
  | false =>
   rw [may_miss hi] at h
   obtain ⟨_,_,h,rfl,p4⟩|⟨_,h,_⟩:=h
   rotate_left
   · cases h
   cases h
   have P4:=hid p4
   obtain ⟨S4,hS4⟩:∃ T,T=(S3:PS):=⟨_,rfl⟩
   have HE4:=hid ((HE3.out.trans (bind_ok (may_miss hi))).trans (congrFun (if_neg Bool.false_ne_true) _))
   rw [<- hS4] at P4 HE4
   have HS4:=hid (show S4.s=S3.s by rw [hS4])
   clear p4 hS4 hi
   have HZ4:=hid (show S4.s.mode=0 by rw [HS4.out];exact HZ3.out)
   have con:=may_any (P4.out.below ((b0R).alloc (jR _) (.cells #[.string w_snapshot] 9))) (words_at w4 [w_snapshot] (by simp))
   go_wp2_with fail
   refine con.mono ?_
   rintro e w5 ⟨g,h⟩
   have HK5:=hid (HK4.out.leaf ((World.grownBy_alloc w4 (.cells #[.string w_snapshot] 9) (some b)).trans g.g) NB.out)
   clear con g
   cases hi:isB [w_snapshot] S4.l with
   | true =>
    rw [may_hit hi] at h
    obtain ⟨_,_,h,rfl,p5⟩|⟨_,h,_⟩:=h
    rotate_left
    · cases h
    cases h
    have P5:=hid p5
    obtain ⟨S5,hS5⟩:∃ T,T=({ S4 with l:=S4.l.drop [w_snapshot].length }:PS):=⟨_,rfl⟩
    have HE5:=hid ((HE4.out.trans (bind_ok (may_hit hi))).trans (congrFun (if_pos rfl) _))
    rw [<- hS5] at P5 HE5
    have HS5:=hid (show S5.s=S4.s by rw [hS5])
    clear p5 hS5 hi
    obtain ⟨_,_,L,hbx,_,_⟩:=P5.out.open
    have c15:=jC hbx 15
    have f15:=free_of hbx 15
    simp only [boxC,List.getElem?_toArray,List.getElem?_cons_zero,List.getElem?_cons_succ] at c15
    clear hbx
    go_wp2_with fail
    go_meet
    have st0:=P5.out.store (j:=15) (v:=.int .i64 1) (s':={ S5.s with mode:=1 }) (fun _ _=>rfl) ⟨rfl,rfl,rfl,rfl,rfl,rfl⟩
    exact ⟨_,HE5.out,st0.1,HK5.out.leaf st0.2 NB.out,show (0:Int)<=1 by decide,show (1:Int)<=2 by decide⟩
   | false =>
    rw [may_miss hi] at h
    obtain ⟨_,_,h,rfl,p5⟩|⟨_,h,_⟩:=h
    rotate_left
    · cases h
    cases h
    have P5:=hid p5
    obtain ⟨S5,hS5⟩:∃ T,T=(S4:PS):=⟨_,rfl⟩
    have HE5:=hid ((HE4.out.trans (bind_ok (may_miss hi))).trans (congrFun (if_neg Bool.false_ne_true) _))
    rw [<- hS5] at P5 HE5
    have HS5:=hid (show S5.s=S4.s by rw [hS5])
    clear p5 hS5 hi
    have HZ5:=hid (show S5.s.mode=0 by rw [HS5.out];exact HZ4.out)
    have con:=may_any (P5.out.below ((b0R).alloc (jR _) (.cells #[.string w_serialisable] 9))) (words_at w5 [w_serialisable] (by simp))
    go_wp2_with fail
    refine con.mono ?_
    rintro e w6 ⟨g,h⟩
    have HK6:=hid (HK5.out.leaf ((World.grownBy_alloc w5 (.cells #[.string w_serialisable] 9) (some b)).trans g.g) NB.out)
    clear con g
    cases hi:isB [w_serialisable] S5.l with
    | true =>
     rw [may_hit hi] at h
     obtain ⟨_,_,h,rfl,p6⟩|⟨_,h,_⟩:=h
     rotate_left
     · cases h
     cases h
     have P6:=hid p6
     obtain ⟨S6,hS6⟩:∃ T,T=({ S5 with l:=S5.l.drop [w_serialisable].length }:PS):=⟨_,rfl⟩
     have HE6:=hid ((HE5.out.trans (bind_ok (may_hit hi))).trans (congrFun (if_pos rfl) _))
     rw [<- hS6] at P6 HE6
     have HS6:=hid (show S6.s=S5.s by rw [hS6])
     clear p6 hS6 hi
     obtain ⟨_,_,L,hbx,_,_⟩:=P6.out.open
     have c15:=jC hbx 15
     have f15:=free_of hbx 15
     simp only [boxC,List.getElem?_toArray,List.getElem?_cons_zero,List.getElem?_cons_succ] at c15
     clear hbx
     go_wp2_with fail
     go_meet
     have st0:=P6.out.store (j:=15) (v:=.int .i64 2) (s':={ S6.s with mode:=2 }) (fun _ _=>rfl) ⟨rfl,rfl,rfl,rfl,rfl,rfl⟩
     exact ⟨_,HE6.out,st0.1,HK6.out.leaf st0.2 NB.out,show (0:Int)<=2 by decide,show (2:Int)<=2 by decide⟩
    | false =>
     rw [may_miss hi] at h
     obtain ⟨_,_,h,rfl,p6⟩|⟨_,h,_⟩:=h
     rotate_left
     · cases h
     cases h
     have P6:=hid p6
     obtain ⟨S6,hS6⟩:∃ T,T=(S5:PS):=⟨_,rfl⟩
     have HE6:=hid ((HE5.out.trans (bind_ok (may_miss hi))).trans (congrFun (if_neg Bool.false_ne_true) _))
     rw [<- hS6] at P6 HE6
     have HS6:=hid (show S6.s=S5.s by rw [hS6])
     clear p6 hS6 hi
     have HZ6:=hid (show S6.s.mode=0 by rw [HS6.out];exact HZ5.out)
     cases hr:isB [w_read] S6.l with
     | false =>
      have con:=is_any (P6.out.below ((b0R).alloc (jR _) (.cells #[.string w_read] 9))) (words_at w6 [w_read] (by simp))
      rw [hr] at con
      go_wp2_with fail
      refine con.mono ?_
      rintro e w7 ⟨rfl,hw⟩
      have hb:Below w6.heap.size w6 w7:=by rw [<- hw];exact (b0R).alloc (jR _) _
      have P7:=hid (show PAt X b en S6 w7 from P6.out.below hb)
      have HK7:=hid (HK6.out.trans (Below.kept hb X))
      clear con hb hw
      have HE7:=hid (show (modeM en) S2=.ok ((),S6) from HE6.out.trans (by unfold readM;rw [hr];rfl))
      go_wp2_with fail
      go_meet
      exact ⟨_,HE7.out,P7.out,HK7.out,⟨by rw [HZ6.out];decide,by rw [HZ6.out];decide⟩⟩
     | true =>
      have con:=is_any (P6.out.below ((b0R).alloc (jR _) (.cells #[.string w_read] 9))) (words_at w6 [w_read] (by simp))
      rw [hr] at con
      go_wp2_with fail
      refine con.mono ?_
      rintro e w7 ⟨rfl,hw⟩
      have hb:Below w6.heap.size w6 w7:=by rw [<- hw];exact (b0R).alloc (jR _) _
      have P7:=hid (show PAt X b en S6 w7 from P6.out.below hb)
      have HK7:=hid (HK6.out.trans (Below.kept hb X))
      clear con hb hw
      obtain ⟨S7,hS7⟩:∃ T,T=S6:=⟨_,rfl⟩
      have HE7:=HE6
      rw [<- hS7] at P7 HE7 hr
      have HZ7:=hid (show S7.s.mode=0 by rw [hS7];exact HZ6.out)
      clear hS7
      cases hr2:isB [w_read,w_only] S7.l with
      | true =>
       have con:=is_any (P7.out.below ((b0R).alloc (jR _) (.cells #[.string w_read,.string w_only] 9))) (words_at w7 [w_read,w_only] (by simp))
       rw [hr2] at con
       go_wp2_with fail
       refine con.mono ?_
       rintro e w8 ⟨rfl,hw⟩
       have hb:Below w7.heap.size w7 w8:=by rw [<- hw];exact (b0R).alloc (jR _) _
       have P8:=hid (show PAt X b en S7 w8 from P7.out.below hb)
       have HK8:=hid (HK7.out.trans (Below.kept hb X))
       clear con hb hw
       have HE8:=hid (show (modeM en) S2=.ok ((),S7) from HE7.out.trans (by unfold readM;rw [hr,hr2];rfl))
       go_wp2_with fail
       go_meet
       exact ⟨_,HE8.out,P8.out,HK8.out,⟨by rw [HZ7.out];decide,by rw [HZ7.out];decide⟩⟩
      | false =>
       have con:=is_any (P7.out.below ((b0R).alloc (jR _) (.cells #[.string w_read,.string w_only] 9))) (words_at w7 [w_read,w_only] (by simp))
       rw [hr2] at con
       go_wp2_with fail
       refine con.mono ?_
       rintro e w8 ⟨rfl,hw⟩
       have hb:Below w7.heap.size w7 w8:=by rw [<- hw];exact (b0R).alloc (jR _) _
       have P8:=hid (show PAt X b en S7 w8 from P7.out.below hb)
       have HK8:=hid (HK7.out.trans (Below.kept hb X))
       clear con hb hw
       obtain ⟨S8,hS8⟩:∃ T,T=S7:=⟨_,rfl⟩
       have HE8:=hid (HE7.out.trans (show readM en S7=mustM en [w_read,w_only] S7 by unfold readM;rw [hr,hr2];rfl))
       rw [<- hS8] at P8 HE8
       have HZ8:=hid (show S8.s.mode=0 by rw [hS8];exact HZ7.out)
       clear hS8 hr hr2
       have con:=must_any (P8.out.below ((b0R).alloc (jR _) (.cells #[.string w_read,.string w_only] 9))) (words_at w8 [w_read,w_only] (by simp)) (fun k hk=>by have:=P8.out.lt_box;omega)
       go_wp2_with fail
       refine con.mono ?_
       rintro e w9 ⟨g,h⟩
       have HK9:=hid (HK8.out.leaf ((World.grownBy_alloc w8 (.cells #[.string w_read,.string w_only] 9) (some b)).trans g.g) NB.out)
       clear con g
       obtain ⟨S9,h9,rfl,p9⟩|⟨er,h9,rfl⟩:=h
       case inr =>
        have HR:=hid (show beginM en S=.error er from HE2.out.trans (bind_error (HE8.out.trans h9)))
        clear h9
        go_wp2_with fail
        refine ⟨rfl,?_⟩
        rw [HPST.out]
        exact ⟨HK9.out,Or.inr ⟨er,HR.out,rfl⟩⟩
       have HS9:=hid (show S9.s=S8.s from (must_state h9).1)
       have HE9:=hid (HE8.out.trans h9)
       have P9:=hid p9
       clear h9 p9
       have HZ9:=hid (show S9.s.mode=0 by rw [HS9.out];exact HZ8.out)
       go_wp2_with fail
       go_meet
       exact ⟨_,HE9.out,P9.out,HK9.out,⟨by rw [HZ9.out];decide,by rw [HZ9.out];decide⟩⟩
 case rest =>
  obtain ⟨S60,hM,hp,hk,hphi⟩:=hcut
  obtain ⟨w60,hw60⟩:∃ x,x=wc:=⟨_,rfl⟩
  rw [<- hw60] at hp hk ⊢
  have HE60:=hid (HE2.out.trans (bind_ok hM))
  have P60:=hid hp
  have HK60:=hid hk
  have PH60:=hid hphi
  clear hM hp hk hphi hw60
  have HB60:=hid (show 0<=S60.s.mode/\S60.s.mode<=2 from PH60.out)
  have HE60:=hid (HE60.out.trans (congrFun (only_flat en) S60))
  have con:=may_any (P60.out.below ((b0R).alloc (jR _) (.cells #[.string w_read] 9))) (words_at w60 [w_read] (by simp))
  go_wp2_with fail
  refine con.mono ?_
  rintro e w61 ⟨g,h⟩
  have HK61:=hid (HK60.out.leaf ((World.grownBy_alloc w60 (.cells #[.string w_read] 9) (some b)).trans g.g) NB.out)
  clear con g
  cases hi:isB [w_read] S60.l with
  | false =>
   rw [may_miss hi] at h
   obtain ⟨_,_,h,rfl,p61⟩|⟨_,h,_⟩:=h
   rotate_left
   · cases h
   cases h
   have P61:=hid p61
   obtain ⟨S61,hS61⟩:∃ T,T=(S60:PS):=⟨_,rfl⟩
   have HE61:=hid ((HE60.out.trans (bind_ok (may_miss hi))).trans (congrFun (if_neg Bool.false_ne_true) _))
   rw [<- hS61] at P61 HE61
   have HS61:=hid (show S61.s=S60.s by rw [hS61])
   clear p61 hS61 hi
   have HB61:=hid (show 0<=S61.s.mode/\S61.s.mode<=2 by rw [HS61.out];exact HB60.out)
   have HE61:=hid (HE61.out.trans (congrFun (defer_eq) S61))
   have con:=may_any (P61.out.below ((b0R).alloc (jR _) (.cells #[.string w_deferrable] 9))) (words_at w61 [w_deferrable] (by simp))
   go_wp2_with fail
   refine con.mono ?_
   rintro e w62 ⟨g,h⟩
   have HK62:=hid (HK61.out.leaf ((World.grownBy_alloc w61 (.cells #[.string w_deferrable] 9) (some b)).trans g.g) NB.out)
   clear con g
   cases hi:isB [w_deferrable] S61.l with
   | false =>
    rw [may_miss hi] at h
    obtain ⟨_,_,h,rfl,p62⟩|⟨_,h,_⟩:=h
    rotate_left
    · cases h
    cases h
    have P62:=hid p62
    obtain ⟨S62,hS62⟩:∃ T,T=(S61:PS):=⟨_,rfl⟩
    have HE62:=hid ((HE61.out.trans (bind_ok (may_miss hi))).trans (congrFun (if_neg Bool.false_ne_true) _))
    rw [<- hS62] at P62 HE62
    have HS62:=hid (show S62.s=S61.s by rw [hS62])
    clear p62 hS62 hi
    go_wp2_with fail
    go_end0
    rw [HPST.out]
    exact ⟨HK62.out,Or.inl ⟨_,HE62.out,rfl,P62.out⟩⟩
   | true =>
    rw [may_hit hi] at h
    obtain ⟨_,_,h,rfl,p62⟩|⟨_,h,_⟩:=h
    rotate_left
    · cases h
    cases h
    have P62:=hid p62
    obtain ⟨S62,hS62⟩:∃ T,T=({ S61 with l:=S61.l.drop [w_deferrable].length }:PS):=⟨_,rfl⟩
    have HE62:=hid ((HE61.out.trans (bind_ok (may_hit hi))).trans (congrFun (if_pos rfl) _))
    rw [<- hS62] at P62 HE62
    have HS62:=hid (show S62.s=S61.s by rw [hS62])
    clear p62 hS62 hi
    have HB62:=hid (show 0<=S62.s.mode/\S62.s.mode<=2 by rw [HS62.out];exact HB61.out)
    have hb0:0<=S62.s.mode:=HB62.out.1
    have hb1:S62.s.mode<=2:=HB62.out.2
    obtain ⟨_,_,L,hbx,_,_⟩:=P62.out.open
    have c15:=jC hbx 15
    have f15:=free_of hbx 15
    simp only [boxC,List.getElem?_toArray,List.getElem?_cons_zero,List.getElem?_cons_succ] at c15
    clear hbx
    have st0:=P62.out.store (j:=15) (v:=.int .i64 (S62.s.mode+8)) (s':={ S62.s with mode:=S62.s.mode+8 }) (fun _ _=>rfl) ⟨rfl,rfl,rfl,rfl,rfl,rfl⟩
    have P63:=hid (show PAt X b en ({ S62 with s:={ S62.s with mode:=S62.s.mode+8 } }:PS) _ from st0.1)
    have HK63:=hid (HK62.out.leaf st0.2 NB.out)
    have HE63:=hid (show beginM en S=.ok ((),({ S62 with s:={ S62.s with mode:=S62.s.mode+8 } }:PS)) from HE62.out)
    clear st0
    go_wp2_with fail
    go_end0
    rw [HPST.out]
    exact ⟨HK63.out,Or.inl ⟨_,HE63.out,rfl,P63.out⟩⟩
  | true =>
   rw [may_hit hi] at h
   obtain ⟨_,_,h,rfl,p61⟩|⟨_,h,_⟩:=h
   rotate_left
   · cases h
   cases h
   have P61:=hid p61
   obtain ⟨S61,hS61⟩:∃ T,T=({ S60 with l:=S60.l.drop [w_read].length }:PS):=⟨_,rfl⟩
   have HE61:=hid ((HE60.out.trans (bind_ok (may_hit hi))).trans (congrFun (if_pos rfl) _))
   rw [<- hS61] at P61 HE61
   have HS61:=hid (show S61.s=S60.s by rw [hS61])
   clear p61 hS61 hi
   have HB61:=hid (show 0<=S61.s.mode/\S61.s.mode<=2 by rw [HS61.out];exact HB60.out)
   have con:=must_any (P61.out.below ((b0R).alloc (jR _) (.cells #[.string w_only] 9))) (words_at w61 [w_only] (by simp)) (fun k hk=>by have:=P61.out.lt_box;omega)
   go_wp2_with fail
   refine con.mono ?_
   rintro e w62 ⟨g,h⟩
   have HK62:=hid (HK61.out.leaf ((World.grownBy_alloc w61 (.cells #[.string w_only] 9) (some b)).trans g.g) NB.out)
   clear con g
   obtain ⟨S62,h62,rfl,p62⟩|⟨er,h62,rfl⟩:=h
   case inr =>
    have HR:=hid (show beginM en S=.error er from HE61.out.trans (bind_error h62))
    clear h62
    go_wp2_with fail
    refine ⟨rfl,?_⟩
    rw [HPST.out]
    exact ⟨HK62.out,Or.inr ⟨er,HR.out,rfl⟩⟩
   have HS62:=hid (show S62.s=S61.s from (must_state h62).1)
   have HE62:=hid (HE61.out.trans (bind_ok h62))
   have P62:=hid p62
   clear h62 p62
   have HB62:=hid (show 0<=S62.s.mode/\S62.s.mode<=2 by rw [HS62.out];exact HB61.out)
   have hb0:0<=S62.s.mode:=HB62.out.1
   have hb1:S62.s.mode<=2:=HB62.out.2
   obtain ⟨_,_,L,hbx,_,_⟩:=P62.out.open
   have c15:=jC hbx 15
   have f15:=free_of hbx 15
   simp only [boxC,List.getElem?_toArray,List.getElem?_cons_zero,List.getElem?_cons_succ] at c15
   clear hbx
   have st0:=P62.out.store (j:=15) (v:=.int .i64 (S62.s.mode+4)) (s':={ S62.s with mode:=S62.s.mode+4 }) (fun _ _=>rfl) ⟨rfl,rfl,rfl,rfl,rfl,rfl⟩
   have P63:=hid (show PAt X b en ({ S62 with s:={ S62.s with mode:=S62.s.mode+4 } }:PS) _ from st0.1)
   have HK63:=hid (HK62.out.leaf st0.2 NB.out)
   have HE63:=hid (HE62.out.trans (bind_ok (a:=()) (S':=({ S62 with s:={ S62.s with mode:=S62.s.mode+4 } }:PS)) rfl))
   clear st0
   go_upto_region 11 with (fail)
   obtain ⟨w63,hw63⟩:∃ x,x=World.setCell (w62) ⟨b,15,none⟩ (.int .i64 (S62.s.mode+4)):=⟨_,rfl⟩
   obtain ⟨S63,hS63⟩:∃ T,T=({ S62 with s:={ S62.s with mode:=S62.s.mode+4 } }:PS):=⟨_,rfl⟩
   rw [<- hw63] at P63 HK63 ⊢
   rw [<- hS63] at P63 HE63
   have HS63:=hid hS63
   clear hw63 hS63 c15 f15
   have HB63:=hid (show 4<=S63.s.mode/\S63.s.mode<=6 by rw [HS63.out];exact ⟨by show 4<=S62.s.mode+4;omega,by show S62.s.mode+4<=6;omega⟩)
   clear hb0 hb1
   have HE63:=hid (HE63.out.trans (congrFun (defer_eq) S63))
   have con:=may_any (P63.out.below ((b0R).alloc (jR _) (.cells #[.string w_deferrable] 9))) (words_at w63 [w_deferrable] (by simp))
   go_wp2_with fail
   refine con.mono ?_
   rintro e w64 ⟨g,h⟩
   have HK64:=hid (HK63.out.leaf ((World.grownBy_alloc w63 (.cells #[.string w_deferrable] 9) (some b)).trans g.g) NB.out)
   clear con g
   cases hi:isB [w_deferrable] S63.l with
   | false =>
    rw [may_miss hi] at h
    obtain ⟨_,_,h,rfl,p64⟩|⟨_,h,_⟩:=h
    rotate_left
    · cases h
    cases h
    have P64:=hid p64
    obtain ⟨S64,hS64⟩:∃ T,T=(S63:PS):=⟨_,rfl⟩
    have HE64:=hid ((HE63.out.trans (bind_ok (may_miss hi))).trans (congrFun (if_neg Bool.false_ne_true) _))
    rw [<- hS64] at P64 HE64
    have HS64:=hid (show S64.s=S63.s by rw [hS64])
    clear p64 hS64 hi
    go_wp2_with fail
    go_end0
    rw [HPST.out]
    exact ⟨HK64.out,Or.inl ⟨_,HE64.out,rfl,P64.out⟩⟩
   | true =>
    rw [may_hit hi] at h
    obtain ⟨_,_,h,rfl,p64⟩|⟨_,h,_⟩:=h
    rotate_left
    · cases h
    cases h
    have P64:=hid p64
    obtain ⟨S64,hS64⟩:∃ T,T=({ S63 with l:=S63.l.drop [w_deferrable].length }:PS):=⟨_,rfl⟩
    have HE64:=hid ((HE63.out.trans (bind_ok (may_hit hi))).trans (congrFun (if_pos rfl) _))
    rw [<- hS64] at P64 HE64
    have HS64:=hid (show S64.s=S63.s by rw [hS64])
    clear p64 hS64 hi
    have HB64:=hid (show 4<=S64.s.mode/\S64.s.mode<=6 by rw [HS64.out];exact HB63.out)
    have hb0:4<=S64.s.mode:=HB64.out.1
    have hb1:S64.s.mode<=6:=HB64.out.2
    obtain ⟨_,_,L,hbx,_,_⟩:=P64.out.open
    have c15:=jC hbx 15
    have f15:=free_of hbx 15
    simp only [boxC,List.getElem?_toArray,List.getElem?_cons_zero,List.getElem?_cons_succ] at c15
    clear hbx
    have st0:=P64.out.store (j:=15) (v:=.int .i64 (S64.s.mode+8)) (s':={ S64.s with mode:=S64.s.mode+8 }) (fun _ _=>rfl) ⟨rfl,rfl,rfl,rfl,rfl,rfl⟩
    have P65:=hid (show PAt X b en ({ S64 with s:={ S64.s with mode:=S64.s.mode+8 } }:PS) _ from st0.1)
    have HK65:=hid (HK64.out.leaf st0.2 NB.out)
    have HE65:=hid (show beginM en S=.ok ((),({ S64 with s:={ S64.s with mode:=S64.s.mode+8 } }:PS)) from HE64.out)
    clear st0
    go_wp2_with fail
    go_end0
    rw [HPST.out]
    exact ⟨HK65.out,Or.inl ⟨_,HE65.out,rfl,P65.out⟩⟩
end
section
open Go.RowKit
theorem list_keeps {φ:Stmt->Prop} {en:Nat} {bt:ByteArray} {st:Tok->Bool} {one:PM Unit} (h1:∀ S S',one S=.ok ((),S')->φ S.s->φ S'.s):∀ (k:Nat) (S S':PS),listM en bt st one k S=.ok ((),S')->φ S.s->φ S'.s
 | 0,S,S',h,hp=>by
  unfold listM at h
  split at h
  · cases h
  · exact h1 _ _ h hp
 | k+1,S,S',h,hp=>by
  unfold listM at h
  split at h
  · cases h
  · rename_i q hq
    have:=h1 S q.2 hq hp
    split at h
    · exact list_keeps h1 k _ _ h this
    · cases h
      exact this
theorem columns_keeps {en most:Nat} {S S':PS} {L:List ByteArray} (h:columnsM en most S=.ok (L,S')):S'.s=S.s:=by
 unfold columnsM at h
 split at h
 · cases h
 · rename_i q hq
   cases h
   refine list_keeps (φ:=fun s=>s=S.s) (fun T T' h hp=>?_) most { S with out:=[] } q.2 hq rfl
   unfold colsOne at h
   split at h
   · cases h
   · rename_i r hr
     cases h
     show r.2.s=S.s
     rw [name_keeps (nm:=r.1) (S1:=r.2) hr]
     exact hp
theorem agg_same {S:PS} {a:Int} (h:S.s.agg=a):modM (fun s=>{ s with agg:=a }) S=.ok ((),S):=by
 subst h
 rfl
def headB (en:Nat) (k:Int):PM Unit:=if k=0 then PM.bind (columnsM en 12) (fun l=>modM fun s=>{ s with names:=l }) else PM.bind nextM fun _=>PM.bind (mustM en [w_lp]) fun _=>PM.bind (aggB en k) fun _=>mustM en [w_rp]
theorem headB_eq (en:Nat) (k:Int):headB en k=if k=0 then PM.bind (columnsM en 12) (fun l=>modM fun s=>{ s with names:=l }) else PM.bind nextM fun _=>PM.bind (mustM en [w_lp]) fun _=>PM.bind (aggB en k) fun _=>mustM en [w_rp]:=rfl
def joinB (en:Nat) (v:Bool):PM Unit:=if v=true then PM.bind (nameM en) fun j=>PM.bind (modM fun s=>{ s with join:=j }) fun _=>PM.bind (mustM en [w_on]) fun _=>PM.bind (nameM en) fun l=>PM.bind (modM fun s=>{ s with left:=l }) fun _=>PM.bind (mustM en [w_eq]) fun _=>PM.bind (nameM en) fun r=>modM fun s=>{ s with right:=r } else pure ()
theorem joinB_true (en:Nat):joinB en true=PM.bind (nameM en) fun j=>PM.bind (modM fun s=>{ s with join:=j }) fun _=>PM.bind (mustM en [w_on]) fun _=>PM.bind (nameM en) fun l=>PM.bind (modM fun s=>{ s with left:=l }) fun _=>PM.bind (mustM en [w_eq]) fun _=>PM.bind (nameM en) fun r=>modM fun s=>{ s with right:=r }:=rfl
theorem joinB_false (en:Nat):joinB en false=pure ():=rfl
theorem join_flat (en:Nat) (k:PM Unit):PM.bind (joinM en) (fun _=>k)=PM.bind (mayM [w_join]) fun v=>PM.bind (joinB en v) fun _=>k:=by
 rw [<- pm_assoc]
 rfl
theorem sel_flat (en:Nat) (S:PS):selM en S=PM.bind (modM fun s=>{ s with kind:=7 }) (fun _=>PM.bind (nowM en) fun t=>PM.bind (modM fun s=>{ s with agg:=aggI t }) fun _=>PM.bind (headB en (aggI t)) fun _=>PM.bind (mustM en [w_from]) fun _=>PM.bind (nameM en) fun t=>PM.bind (modM fun s=>{ s with table:=t }) fun _=>PM.bind (joinM en) fun _=>PM.bind (whereM en) fun _=>orderM en) S:=by
 rw [sel_eq,selHead_eq]
 rfl
theorem own_ge {w:World} {B:Nat} {e:TypeId} {sz n g:Nat} {v:Value} {xs:List Value} (h:w.ownsRow B e sz v n xs) (hg:v.ownBlock=some g):B<=g:=by
 obtain ⟨_,⟨rfl,_⟩|⟨q,cap,cur,rfl,hb,_⟩⟩:=h
 · cases hg
 · cases hg
   exact hb
def aggL:List ByteArray:=[w_count,w_sum,w_min,w_max]
theorem owns_one (w:World) (x:ByteArray):(w.alloc (.cells #[.string x] 9)).ownsRow w.heap.size 9 1 (.slice (some ⟨w.heap.size,0,none⟩) 1 1) [x].length ([x].flatMap strEnc) :=
 ⟨rfl,Or.inr ⟨w.heap.size,1,#[.string x],rfl,jR _,heap_alloc_new _ _,jR _,by decide,rfl,rfl⟩⟩
theorem sel_any {X:Nat->Prop} {b en:Nat} {S:PS} {w:World} (h:PAt X b en S w) (hz:S.s.agg=0/\S.s.wher.length<=500) :
 Calls Tryz.prog 43 #[.pointer (some ⟨b,0,none⟩)] w fun e w'=>StepU X b en w (selM en S) e w':=by
 obtain ⟨Pst,hPst⟩:∃ Pst,Pst=StepU X b en w (selM en S):=⟨_,rfl⟩
 have HPST:=hid hPst
 rw [<- hPst]
 have NB:=hid (show ¬ X b from h.nb)
 have HK1:=hid (Kept.refl X w)
 have P1:=hid h
 have HF0:=hid hz
 clear hz
 obtain ⟨w1,hw1⟩:∃ x,x=w:=⟨_,rfl⟩
 obtain ⟨S1,hS1⟩:∃ x,x=S:=⟨_,rfl⟩
 have HK1:=hid (show Kept X w w1 by rw [hw1];exact HK1.out)
 have P1:=hid (show PAt X b en S1 w1 by rw [hw1,hS1];exact P1.out)
 have HE1:=hid ((congrArg (selM en) hS1.symm).trans (sel_flat en S1))
 rw [<- hw1]
 have HS1:=hid hS1
 clear h hPst hw1
 go_enter Tryz.func43,Tryz.ntmps43
 obtain ⟨_,_,L,hbx,_,_⟩:=P1.out.open
 have c2:=jC hbx 2
 have f2:=free_of hbx 2
 simp only [boxC,List.getElem?_toArray,List.getElem?_cons_zero,List.getElem?_cons_succ] at c2
 clear hbx
 have st0:=P1.out.store (j:=2) (v:=.int .i64 7) (s':={ S1.s with kind:=7 }) (fun _ _=>rfl) ⟨rfl,rfl,rfl,rfl,rfl,rfl⟩
 have P2:=hid (show PAt X b en ({ S1 with s:={ S1.s with kind:=7 } }:PS) _ from st0.1)
 have HK2:=hid (HK1.out.leaf st0.2 NB.out)
 have HE2:=hid (HE1.out.trans (bind_ok (a:=()) (S':=({ S1 with s:={ S1.s with kind:=7 } }:PS)) rfl))
 clear st0
 go_upto_region 1 with (fail)
 obtain ⟨w2,hw2⟩:∃ x,x=World.setCell (w1) ⟨b,2,none⟩ (.int .i64 7):=⟨_,rfl⟩
 obtain ⟨S2,hS2⟩:∃ T,T=({ S1 with s:={ S1.s with kind:=7 } }:PS):=⟨_,rfl⟩
 rw [<- hw2] at P2 HK2 ⊢
 rw [<- hS2] at P2 HE2
 have HS2:=hid hS2
 clear hw2 hS2 c2 f2
 have HF2:=hid (show S2.s.agg=0/\S2.s.wher.length<=500 by rw [HS2.out];show S1.s.agg=0/\S1.s.wher.length<=500;rw [HS1.out];exact HF0.out)
 have HE2:=hid (HE2.out.trans (bind_ok (m:=nowM en) (S:=S2) (S':=S2) (a:=nowT en S2) rfl))
 have con:=now_any P2.out
 obtain ⟨hsz,_,_⟩:=now_ok P2.out
 obtain ⟨t,ht⟩:∃ t,t=nowT en S2:=⟨_,rfl⟩
 have HT:=hid ht
 rw [<- ht] at con hsz HE2
 clear ht
 obtain ⟨tk,tp,tt,tn⟩:=t
 simp only [Tok.enc] at con HE2
 go_wp2_with fail
 refine con.mono ?_
 rintro e w3 ⟨rfl,hb⟩
 obtain ⟨w4,hw4⟩:∃ W,w3.alloc (.cells #[.int .i64 tk,.int .i64 tp,.string tt,.int .i64 tn] 56)=W:=⟨_,rfl⟩
 have b5:Below w2.heap.size w2 w4:=by rw [<- hw4];exact hb.trans (((b0R).alloc (jR _) _).mono hb.size)
 have hqt:w4.heap[w3.heap.size]? = some (.cells #[.int .i64 tk,.int .i64 tp,.string tt,.int .i64 tn] 56 (0,0)):=by rw [<- hw4];exact heap_alloc_new _ _
 have QT:=hid hqt
 have HK4:=hid (HK2.out.trans (Below.kept b5 X))
 have P4:=hid (show PAt X b en S2 w4 from P2.out.below b5)
 have HF4:=HF2
 have t0:=jC hqt 0
 have t2:=jC hqt 2
 simp only [gT,gZ,gS] at t0 t2
 clear hb b5 hqt con
 obtain ⟨ag,hag⟩:∃ x,x=aggI ⟨tk,tp,tt,tn⟩:=⟨_,rfl⟩
 rw [<- hag] at HE2
 have HAG:=hid hag
 have HAB:=hid (show 0<=ag/\ag<=4 by
  rw [hag,agg_idx]
  split
  · have:=idx_bd [w_count,w_sum,w_min,w_max] tt
    have h4:(([w_count,w_sum,w_min,w_max]:List ByteArray).length:Int)=4:=rfl
    exact ⟨show (0:Int)<=1+Lib.idxOfS [w_count,w_sum,w_min,w_max] tt by omega,show 1+Lib.idxOfS [w_count,w_sum,w_min,w_max] tt<=(4:Int) by omega⟩
  · constructor <;> omega)
 clear hag
 go_upto_if 11 with (fail)
 clear hw4
 go_cut [] from 3 to 20 (fun wx=>Rel X b en w (modM fun s=>{ s with agg:=ag }) S2 (fun s=>s.wher.length<=500) wx)
 case first =>
  by_cases hk1:tk=1
  case neg =>
   have e1:(tk == 1)=false:=by simpa using hk1
   have HA0:=hid (show ag=0 by rw [HAG.out,agg_idx,if_neg hk1])
   go_wp2_with fail
   go_meet
   exact ⟨_,agg_same (HF4.out.1.trans HA0.out.symm),P4.out,HK4.out,HF4.out.2⟩
  case pos =>
   subst hk1
   obtain ⟨k,hk⟩:∃ k,k=Lib.idxOfS aggL tt:=⟨_,rfl⟩
   have hkb:-1<=k/\k<4:=by
    have:=idx_bd aggL tt
    rw [<- hk] at this
    exact this
   have HAG:=hid (show ag=1+k by rw [HAG.out,agg_idx,if_pos rfl,hk];rfl)
   have HKX:=hid hk
   clear hk
   go_upto_region 3 with (fail)
   apply wp_region_growt 6 [12,13,14,15,16,17]
    [fun _ u _=>u=.pointer (some ⟨b,0,none⟩),
     fun _ u w'=>WordsD aggL u w',
     fun _ u _=>u=.pointer (some ⟨w3.heap.size,2,none⟩),
     fun _ u _=>u=.string tt,
     fun _ u _=>u=.int .i64 k,
     fun _ u _=>u=.int .i64 (1+k)]
    (Below w4.heap.size w4)
   case hF =>
    intro v
    simp only [setAll,List.foldl_cons,List.foldl_nil,Act.put,List.setIfInBounds_toArray,List.set_cons_succ,List.set_cons_zero]
    exact rfl
   case hm=>kernel_rfl
   case hB=>kernel_rfl
   case hsz=>kernel_rfl
   case hC=>exact fun w1 w2 h b=>h.trans (b.mono h.size)
   case hw=>exact Below.drew b0R
   case hS =>
    intro D hD v u
    simp only [List.mem_cons,List.not_mem_nil,or_false] at hD
    rcases hD with rfl|rfl|rfl|rfl|rfl|rfl
    · exact fun w1 w2 h _=>h
    · exact fun w1 w2 h hb=>h.below hb
    · exact fun w1 w2 h _=>h
    · exact fun w1 w2 h _=>h
    · exact fun w1 w2 h _=>h
    · exact fun w1 w2 h _=>h
   case hob =>
    simp only [List.take_succ_cons,List.take_zero]
    apply growt_cons
    · intro v w1 h1 hd
      clear hd h1
      go_wp2_with fail
      first|exact Below.refl _ _|exact ⟨Below.refl _ _,rfl⟩|exact ⟨rfl,Below.refl _ _⟩
    apply growt_cons
    · intro v w1 h1 hd
      have con:=fields_any (s:=⟨#[99,111,117,110,116,32,115,117,109,32,109,105,110,32,109,97,120]⟩) (L:=aggL) (by decide +kernel) (by decide) (by decide) (P4.out.below h1).env
      clear hd h1
      go_wp2_with fail
      refine con.mono ?_
      rintro e w2 ⟨rfl,h2⟩
      have H2:=hid h2
      have hwd:=words_at w1 aggL (by decide)
      have HWD:=hid hwd
      have HB2:=hid (show Below w1.heap.size w1 w2 by rw [h2];exact (b0R).alloc (jR _) _)
      clear con h2 hwd
      go_wp2_with fail
      have hx:WordsD aggL (.slice (some ⟨w1.heap.size,0,none⟩) aggL.length aggL.length) w2:=by rw [H2.out];exact ⟨_,rfl,HWD.out⟩
      first|exact ⟨HB2.out,hx⟩|exact ⟨hx,HB2.out⟩
    apply growt_cons
    · intro v w1 h1 hd
      clear hd h1
      go_wp2_with fail
      first|exact Below.refl _ _|exact ⟨Below.refl _ _,rfl⟩|exact ⟨rfl,Below.refl _ _⟩
    apply growt_cons
    · intro v w1 h1 hd
      have g14:v 14=.pointer (some ⟨w3.heap.size,2,none⟩):=hd 2 _ _ _ rfl rfl rfl rfl
      have ct:=jC ((h1.block _ (jB QT.out)).trans QT.out) 2
      simp only [gT,gZ,gS] at ct
      clear hd
      rw [g14]
      clear g14 h1
      go_wp2_with fail
      first|exact Below.refl _ _|exact ⟨Below.refl _ _,rfl⟩|exact ⟨rfl,Below.refl _ _⟩
    apply growt_cons
    · intro v w1 h1 hd
      obtain ⟨g,g12,hg⟩:WordsD aggL (v 13) w1:=hd 1 _ _ _ rfl rfl rfl rfl
      have g14:v 15=.string tt:=hd 3 _ _ _ rfl rfl rfl rfl
      have con:=index_any hg tt
      rw [<- HKX.out] at con
      clear hd
      rw [g12,g14]
      clear g12 g14 h1 hg
      go_wp2_with fail
      refine con.mono ?_
      rintro e w2 ⟨rfl,rfl⟩
      clear con
      go_wp2_with fail
      first|exact Below.refl _ _|exact ⟨Below.refl _ _,rfl⟩|exact ⟨rfl,Below.refl _ _⟩
    apply growt_cons
    · intro v w1 h1 hd
      have g15:v 16=.int .i64 k:=hd 4 _ _ _ rfl rfl rfl rfl
      clear hd
      rw [g15]
      clear g15 h1
      go_wp2_with fail
      first|exact Below.refl _ _|exact ⟨Below.refl _ _,rfl⟩|exact ⟨rfl,Below.refl _ _⟩
    exact growt_nil
   case hend =>
    intro v w7 h1 hd
    have g12:v 12=.pointer (some ⟨b,0,none⟩):=hd 0 _ _ _ rfl rfl rfl
    have g17:v 17=.int .i64 (1+k):=hd 5 _ _ _ rfl rfl rfl
    rw [g12,g17]
    have HK7:=hid (HK4.out.trans (Below.kept h1 X))
    have P7:=hid (P4.out.below h1)
    obtain ⟨_,_,L,hbx,_,_⟩:=P7.out.open
    have c13:=jC hbx 13
    have f13:=free_of hbx 13
    simp only [boxC,List.getElem?_toArray,List.getElem?_cons_zero,List.getElem?_cons_succ] at c13
    clear hd g12 g17 h1 hbx
    generalize v 13=y13,v 14=y14,v 15=y15,v 16=y16
    simp only [List.drop_succ_cons,List.drop_zero]
    go_wp2_with fail
    go_meet
    have st0:=P7.out.store (j:=13) (v:=.int .i64 (1+k)) (s':={ S2.s with agg:=1+k }) (fun _ _=>rfl) ⟨rfl,rfl,rfl,rfl,rfl,rfl⟩
    exact ⟨_,by rw [HAG.out];rfl,st0.1,HK7.out.leaf st0.2 NB.out,HF4.out.2⟩
 case rest =>
  obtain ⟨S5,hM,hp,hk,hphi⟩:=hcut
  obtain ⟨w5,hw5⟩:∃ x,x=wc:=⟨_,rfl⟩
  rw [<- hw5] at hp hk ⊢
  have HE5:=hid (HE2.out.trans (bind_ok hM))
  have hag5:S5.s.agg=ag:=by cases hM;rfl
  have P5:=hid hp
  have HK5:=hid hk
  have HW5:=hid (show S5.s.wher.length<=500 from hphi)
  obtain ⟨_,_,L,hbx,_,_⟩:=P5.out.open
  have c13:=jC hbx 13
  simp only [boxC,List.getElem?_toArray,List.getElem?_cons_zero,List.getElem?_cons_succ] at c13
  rw [hag5] at c13
  have HA5:=hid hag5
  have HL5:=hid (show S5.l=S2.l by cases hM;rfl)
  clear hM hp hk hphi hw5 hag5 hbx t0 t2 hsz
  go_upto_if 26 with (fail)
  clear c13
  go_cut [] from 21 to 62 (fun wx=>Rel X b en w (headB en ag) S5 (fun s=>s.wher.length<=500) wx)
  case first =>
   by_cases ha:ag=0
   case pos =>
    have d0:decide (0<ag)=false:=by rw [ha];rfl
    have con:=columns_any (most:=12) (by omega) P5.out
    go_wp2_with fail
    refine con.mono ?_
    rintro e w6 ⟨g6,⟨Ln,S6,v6,h6,rfl,o6,l6,p6⟩|⟨er,h6,rfl⟩⟩
    case inr =>
     have HR:=hid (show selM en S=.error er from HE5.out.trans (bind_error ((congrFun (if_pos ha) S5).trans (bind_error h6))))
     have HK6:=hid (HK5.out.leaf g6 NB.out)
     clear con h6 g6
     go_wp2_with fail
     refine ⟨rfl,?_⟩
     rw [HPST.out]
     exact ⟨HK6.out,Or.inr ⟨er,HR.out,rfl⟩⟩
    have HE6:=hid (show headB en ag S5=.ok ((),{ S6 with s:={ S6.s with names:=Ln } }) from (congrFun (if_pos ha) S5).trans (bind_ok h6))
    have HK6:=hid (HK5.out.leaf g6 NB.out)
    obtain ⟨ua,uc,rfl,_⟩:=owns_shape' o6
    have P6:=hid p6
    have O6:=hid o6
    have HV6:=hid (show ∀ g,(Value.slice ua Ln.length uc).ownBlock=some g->¬ X g from fun g hg hx=>absurd (P5.out.lt g hx) (Nat.not_lt.2 (own_ge o6 hg)))
    have HW6:=hid (show S6.s.wher.length<=500 by rw [columns_keeps h6];exact HW5.out)
    obtain ⟨_,_,L,hbx,_,_⟩:=P6.out.open
    have c6:=jC hbx 6
    have f6:=free_of hbx 6
    simp only [boxC,List.getElem?_toArray,List.getElem?_cons_zero,List.getElem?_cons_succ] at c6
    clear con h6 g6 o6 p6 l6 hbx
    go_wp2_with fail
    go_meet
    have st:=P6.out.put_names O6.out HV6.out
    exact ⟨_,HE6.out,st.1,HK6.out.leaf st.2 NB.out,HW6.out⟩
   case neg =>
    have d0:0<ag:=by have:=HAB.out.1;omega
    have hlen:1<=S5.l.length:=by
     rw [HL5.out]
     refine now_len (en:=en) ?_
     rw [<- HT.out]
     show tk ≠ 0
     intro h0
     have h1:=HAG.out
     rw [agg_idx,if_neg (show ¬ tk=1 by omega)] at h1
     exact ha h1
    obtain ⟨av,n,c,a',k0,hf,hn1,hnc,hns,hsl,hfin⟩:=P5.out.one' hlen
    have HE6:=hid (show headB en ag S5=_ from (congrFun (if_neg ha) S5).trans (bind_ok (m:=nextM) (S:=S5) (S':={ S5 with l:=S5.l.tail }) (a:=()) rfl))
    have FIN:=hid (hfin w5 b0R)
    clear hlen hfin
    go_upto_region 6 with (fail)
    clear hsl
    obtain ⟨w6,hw6⟩:∃ x,x=World.setCell w5 ⟨b,0,none⟩ (.slice a' (n - 1) (c - 1)):=⟨_,rfl⟩
    obtain ⟨S6,hS6⟩:∃ T,T=({ S5 with l:=S5.l.tail }:PS):=⟨_,rfl⟩
    have P6:=hid (show PAt X b en S6 w6 by rw [hw6,hS6];exact FIN.out.1)
    have HK6:=hid (show Kept X w w6 by rw [hw6];exact HK5.out.leaf FIN.out.2.g NB.out)
    rw [<- hS6] at HE6
    rw [<- hw6]
    have HF6:=hid (show S6.s.agg=ag/\S6.s.wher.length<=500 by rw [hS6];exact ⟨HA5.out,HW5.out⟩)
    clear hw6 hS6 k0 hf hn1 hnc hns
    have con:=must_any (P6.out.below ((b0R).alloc (jR _) (.cells #[.string w_lp] 9))) (words_at w6 [w_lp] (by simp)) (fun k hk=>by have:=P6.out.lt_box;omega)
    go_wp2_with fail
    refine con.mono ?_
    rintro e w7 ⟨g,h⟩
    have HK7:=hid (HK6.out.leaf ((World.grownBy_alloc w6 (.cells #[.string w_lp] 9) (some b)).trans g.g) NB.out)
    clear con g
    obtain ⟨S7,h7,rfl,p7⟩|⟨er,h7,rfl⟩:=h
    case inr =>
     have HR:=hid (show selM en S=.error er from HE5.out.trans (bind_error (HE6.out.trans (bind_error h7))))
     clear h7
     go_wp2_with fail
     refine ⟨rfl,?_⟩
     rw [HPST.out]
     exact ⟨HK7.out,Or.inr ⟨er,HR.out,rfl⟩⟩
    have HS7:=hid (show S7.s=S6.s from (must_state h7).1)
    have HE7:=hid (HE6.out.trans (bind_ok h7))
    have P7:=hid p7
    clear h7 p7
    have HF7:=hid (show S7.s.agg=ag/\S7.s.wher.length<=500 by rw [HS7.out];exact HF6.out)
    obtain ⟨_,_,L,hbx,_,_⟩:=P7.out.open
    have c13:=jC hbx 13
    simp only [boxC,List.getElem?_toArray,List.getElem?_cons_zero,List.getElem?_cons_succ] at c13
    rw [HF7.out.1] at c13
    clear hbx
    by_cases h1:ag=1
    case pos =>
     have e1:(ag == 1)=true:=by simpa using h1
     have HE7:=hid (HE7.out.trans (show PM.bind (aggB en ag) (fun _=>mustM en [w_rp]) S7=PM.bind (mustM en [w_star]) (fun _=>mustM en [w_rp]) S7 by rw [show aggB en ag=mustM en [w_star] from if_pos h1]))
     have con:=must_any (P7.out.below ((b0R).alloc (jR _) (.cells #[.string w_star] 9))) (words_at w7 [w_star] (by simp)) (fun k hk=>by have:=P7.out.lt_box;omega)
     go_wp2_with fail
     refine con.mono ?_
     rintro e w8 ⟨g,h⟩
     have HK8:=hid (HK7.out.leaf ((World.grownBy_alloc w7 (.cells #[.string w_star] 9) (some b)).trans g.g) NB.out)
     clear con g
     obtain ⟨S8,h8,rfl,p8⟩|⟨er,h8,rfl⟩:=h
     case inr =>
      have HR:=hid (show selM en S=.error er from HE5.out.trans (bind_error (HE7.out.trans (bind_error h8))))
      clear h8
      go_wp2_with fail
      refine ⟨rfl,?_⟩
      rw [HPST.out]
      exact ⟨HK8.out,Or.inr ⟨er,HR.out,rfl⟩⟩
     have HS8:=hid (show S8.s=S7.s from (must_state h8).1)
     have HE8:=hid (HE7.out.trans (bind_ok h8))
     have P8:=hid p8
     clear h8 p8
     have HF8:=hid (show S8.s.agg=ag/\S8.s.wher.length<=500 by rw [HS8.out];exact HF7.out)
     have con:=must_any (P8.out.below ((b0R).alloc (jR _) (.cells #[.string w_rp] 9))) (words_at w8 [w_rp] (by simp)) (fun k hk=>by have:=P8.out.lt_box;omega)
     go_wp2_with fail
     refine con.mono ?_
     rintro e w9 ⟨g,h⟩
     have HK9:=hid (HK8.out.leaf ((World.grownBy_alloc w8 (.cells #[.string w_rp] 9) (some b)).trans g.g) NB.out)
     clear con g
     obtain ⟨S9,h9,rfl,p9⟩|⟨er,h9,rfl⟩:=h
     case inr =>
      have HR:=hid (show selM en S=.error er from HE5.out.trans (bind_error (HE8.out.trans h9)))
      clear h9
      go_wp2_with fail
      refine ⟨rfl,?_⟩
      rw [HPST.out]
      exact ⟨HK9.out,Or.inr ⟨er,HR.out,rfl⟩⟩
     have HS9:=hid (show S9.s=S8.s from (must_state h9).1)
     have HE9:=hid (HE8.out.trans h9)
     have P9:=hid p9
     clear h9 p9
     have HF9:=hid (show S9.s.agg=ag/\S9.s.wher.length<=500 by rw [HS9.out];exact HF8.out)
     go_wp2_with fail
     go_meet
     exact ⟨_,HE9.out,P9.out,HK9.out,HF9.out.2⟩
    case neg =>
     have e1:(ag == 1)=false:=by simpa using h1
     have HE7:=hid (HE7.out.trans (show PM.bind (aggB en ag) (fun _=>mustM en [w_rp]) S7=PM.bind (nameM en) (fun n=>PM.bind (modM fun s=>{ s with names:=[n] }) fun _=>mustM en [w_rp]) S7 by rw [show aggB en ag=PM.bind (nameM en) fun n=>modM fun s=>{ s with names:=[n] } from if_neg h1,pm_assoc]))
     have con:=name_any P7.out
     go_wp2_with fail
     refine con.mono ?_
     rintro e w8 ⟨g,h⟩
     have HK8:=hid (HK7.out.leaf g.g NB.out)
     clear con g
     obtain ⟨nm8,S8,h8,rfl,p8⟩|⟨er,h8,rfl⟩:=h
     case inr =>
      have HR:=hid (show selM en S=.error er from HE5.out.trans (bind_error (HE7.out.trans (bind_error h8))))
      clear h8
      go_wp2_with fail
      refine ⟨rfl,?_⟩
      rw [HPST.out]
      exact ⟨HK8.out,Or.inr ⟨er,HR.out,rfl⟩⟩
     have HS8:=hid (show S8.s=S7.s by rw [name_keeps h8])
     have HE8:=hid (HE7.out.trans (bind_ok h8))
     have P8:=hid p8
     clear h8 p8
     have HF8:=hid (show S8.s.agg=ag/\S8.s.wher.length<=500 by rw [HS8.out];exact HF7.out)
     obtain ⟨wa,hwa⟩:∃ W,w8.alloc (.cells #[.string nm8] 9)=W:=⟨_,rfl⟩
     have ba:Below w8.heap.size w8 wa:=by rw [<- hwa];exact (b0R).alloc (jR _) _
     have PA:=hid (P8.out.below ba)
     have HKA:=hid (HK8.out.trans (Below.kept ba X))
     have OA:=hid (show wa.ownsRow w8.heap.size 9 1 (.slice (some ⟨w8.heap.size,0,none⟩) 1 1) [nm8].length ([nm8].flatMap strEnc) by rw [<- hwa];exact owns_one w8 nm8)
     have HVA:=hid (show ∀ g,(Value.slice (some ⟨w8.heap.size,0,none⟩) 1 1).ownBlock=some g->¬ X g from fun g hg hx=>absurd (P8.out.lt g hx) (Nat.not_lt.2 (own_ge OA.out hg)))
     have st:=PA.out.put_names OA.out HVA.out
     have HE9:=hid (HE8.out.trans (bind_ok (a:=()) (S':={ S8 with s:={ S8.s with names:=[nm8] } }) rfl))
     have P9:=hid st.1
     have HK9:=hid (HKA.out.leaf st.2 NB.out)
     obtain ⟨_,_,L,hbx,_,_⟩:=PA.out.open
     have c6:=jC hbx 6
     have f6:=free_of hbx 6
     simp only [boxC,List.getElem?_toArray,List.getElem?_cons_zero,List.getElem?_cons_succ] at c6
     clear hbx st ba
     go_upto_region 10 with (fail)
     obtain ⟨w9,hw9⟩:∃ x,x=World.setCell wa ⟨b,6,none⟩ (.slice (some ⟨w8.heap.size,0,none⟩) 1 1):=⟨_,rfl⟩
     obtain ⟨S9,hS9⟩:∃ T,T=({ S8 with s:={ S8.s with names:=[nm8] } }:PS):=⟨_,rfl⟩
     rw [<- hw9] at P9 HK9 ⊢
     rw [<- hS9] at P9 HE9
     have HS9:=hid hS9
     clear hw9 hS9 c6 f6 hwa
     have HF9:=hid (show S9.s.agg=ag/\S9.s.wher.length<=500 by rw [HS9.out];exact HF8.out)
     have con:=must_any (P9.out.below ((b0R).alloc (jR _) (.cells #[.string w_rp] 9))) (words_at w9 [w_rp] (by simp)) (fun k hk=>by have:=P9.out.lt_box;omega)
     go_wp2_with fail
     refine con.mono ?_
     rintro e w10 ⟨g,h⟩
     have HK10:=hid (HK9.out.leaf ((World.grownBy_alloc w9 (.cells #[.string w_rp] 9) (some b)).trans g.g) NB.out)
     clear con g
     obtain ⟨S10,h10,rfl,p10⟩|⟨er,h10,rfl⟩:=h
     case inr =>
      have HR:=hid (show selM en S=.error er from HE5.out.trans (bind_error (HE9.out.trans h10)))
      clear h10
      go_wp2_with fail
      refine ⟨rfl,?_⟩
      rw [HPST.out]
      exact ⟨HK10.out,Or.inr ⟨er,HR.out,rfl⟩⟩
     have HS10:=hid (show S10.s=S9.s from (must_state h10).1)
     have HE10:=hid (HE9.out.trans h10)
     have P10:=hid p10
     clear h10 p10
     have HF10:=hid (show S10.s.agg=ag/\S10.s.wher.length<=500 by rw [HS10.out];exact HF9.out)
     go_wp2_with fail
     go_meet
     exact ⟨_,HE10.out,P10.out,HK10.out,HF10.out.2⟩
  case rest =>
   obtain ⟨S40,hM,hp,hk,hphi⟩:=hcut
   obtain ⟨w40,hw40⟩:∃ x,x=wc:=⟨_,rfl⟩
   rw [<- hw40] at hp hk ⊢
   have HE40:=hid (HE5.out.trans (bind_ok hM))
   have P40:=hid hp
   have HK40:=hid hk
   have PH40:=hid hphi
   clear hM hp hk hphi hw40
   have HW40:=hid (show S40.s.wher.length<=500 from PH40.out)
   have con:=must_any (P40.out.below ((b0R).alloc (jR _) (.cells #[.string w_from] 9))) (words_at w40 [w_from] (by simp)) (fun k hk=>by have:=P40.out.lt_box;omega)
   go_wp2_with fail
   refine con.mono ?_
   rintro e w41 ⟨g,h⟩
   have HK41:=hid (HK40.out.leaf ((World.grownBy_alloc w40 (.cells #[.string w_from] 9) (some b)).trans g.g) NB.out)
   clear con g
   obtain ⟨S41,h41,rfl,p41⟩|⟨er,h41,rfl⟩:=h
   case inr =>
    have HR:=hid (show selM en S=.error er from HE40.out.trans (bind_error h41))
    clear h41
    go_wp2_with fail
    refine ⟨rfl,?_⟩
    rw [HPST.out]
    exact ⟨HK41.out,Or.inr ⟨er,HR.out,rfl⟩⟩
   have HS41:=hid (show S41.s=S40.s from (must_state h41).1)
   have HE41:=hid (HE40.out.trans (bind_ok h41))
   have P41:=hid p41
   clear h41 p41
   have HW41:=hid (show S41.s.wher.length<=500 by rw [HS41.out];exact HW40.out)
   have con:=name_any P41.out
   go_wp2_with fail
   refine con.mono ?_
   rintro e w42 ⟨g,h⟩
   have HK42:=hid (HK41.out.leaf g.g NB.out)
   clear con g
   obtain ⟨nm42,S42,h42,rfl,p42⟩|⟨er,h42,rfl⟩:=h
   case inr =>
    have HR:=hid (show selM en S=.error er from HE41.out.trans (bind_error h42))
    clear h42
    go_wp2_with fail
    refine ⟨rfl,?_⟩
    rw [HPST.out]
    exact ⟨HK42.out,Or.inr ⟨er,HR.out,rfl⟩⟩
   have HS42:=hid (show S42.s=S41.s by rw [name_keeps h42])
   have HE42:=hid (HE41.out.trans (bind_ok h42))
   have P42:=hid p42
   clear h42 p42
   have HW42:=hid (show S42.s.wher.length<=500 by rw [HS42.out];exact HW41.out)
   obtain ⟨_,_,L,hbx,_,_⟩:=P42.out.open
   have c3:=jC hbx 3
   have f3:=free_of hbx 3
   simp only [boxC,List.getElem?_toArray,List.getElem?_cons_zero,List.getElem?_cons_succ] at c3
   clear hbx
   have st0:=P42.out.store (j:=3) (v:=.string nm42) (s':={ S42.s with table:=nm42 }) (fun _ _=>rfl) ⟨rfl,rfl,rfl,rfl,rfl,rfl⟩
   have P43:=hid (show PAt X b en ({ S42 with s:={ S42.s with table:=nm42 } }:PS) _ from st0.1)
   have HK43:=hid (HK42.out.leaf st0.2 NB.out)
   have HE43:=hid (HE42.out.trans (bind_ok (a:=()) (S':=({ S42 with s:={ S42.s with table:=nm42 } }:PS)) rfl))
   clear st0
   go_upto_region 14 with (fail)
   obtain ⟨w43,hw43⟩:∃ x,x=World.setCell (w42) ⟨b,3,none⟩ (.string nm42):=⟨_,rfl⟩
   obtain ⟨S43,hS43⟩:∃ T,T=({ S42 with s:={ S42.s with table:=nm42 } }:PS):=⟨_,rfl⟩
   rw [<- hw43] at P43 HK43 ⊢
   rw [<- hS43] at P43 HE43
   have HS43:=hid hS43
   clear hw43 hS43 c3 f3
   have HW43:=hid (show S43.s.wher.length<=500 by rw [HS43.out];exact HW42.out)
   have HE43:=hid (HE43.out.trans (congrFun (join_flat en _) S43))
   have con:=may_any (P43.out.below ((b0R).alloc (jR _) (.cells #[.string w_join] 9))) (words_at w43 [w_join] (by simp))
   go_wp2_with fail
   refine con.mono ?_
   rintro e w44 ⟨g,h⟩
   have HK44:=hid (HK43.out.leaf ((World.grownBy_alloc w43 (.cells #[.string w_join] 9) (some b)).trans g.g) NB.out)
   clear con g
   obtain ⟨bv44,S44,h44,rfl,p44⟩|⟨er,h44,_⟩:=h
   rotate_left
   · exact absurd h44 may_never
   have HS44:=hid (show S44.s=S43.s from may_keeps h44)
   have HE44:=hid (HE43.out.trans (bind_ok h44))
   have P44:=hid p44
   clear h44 p44
   have HW44:=hid (show S44.s.wher.length<=500 by rw [HS44.out];exact HW43.out)
   go_upto_if 74 with (fail)
   go_cut [] from 72 to 98 (fun wx=>Rel X b en w (joinB en bv44) S44 (fun s=>s.wher.length<=500) wx)
   case first =>
    obtain ⟨S45,hS45⟩:∃ T,T=S44:=⟨_,rfl⟩
    obtain ⟨w45,hw45⟩:∃ x,x=w44:=⟨_,rfl⟩
    have P45:=hid (show PAt X b en S45 w45 by rw [hS45,hw45];exact P44.out)
    have HK45:=hid (show Kept X w w45 by rw [hw45];exact HK44.out)
    have HE45:=hid (show (joinB en bv44) S44=(joinB en bv44) S45 by rw [hS45])
    have HS45:=hid hS45
    rw [<- hw45]
    clear hS45 hw45
    have HW45:=hid (show S45.s.wher.length<=500 by rw [HS45.out];exact HW44.out)
    cases bv44 with
    | false =>
     have HE45:=hid (show (joinB en false) S44=.ok ((),S45) from HE45.out)
     go_wp2_with fail
     go_meet
     exact ⟨_,HE45.out,P45.out,HK45.out,HW45.out⟩
    | true =>
     have HE45:=hid (HE45.out.trans (congrFun (joinB_true en) S45))
     have con:=name_any P45.out
     go_wp2_with fail
     refine con.mono ?_
     rintro e w46 ⟨g,h⟩
     have HK46:=hid (HK45.out.leaf g.g NB.out)
     clear con g
     obtain ⟨nm46,S46,h46,rfl,p46⟩|⟨er,h46,rfl⟩:=h
     case inr =>
      have HR:=hid (show selM en S=.error er from HE44.out.trans (bind_error (HE45.out.trans (bind_error h46))))
      clear h46
      go_wp2_with fail
      refine ⟨rfl,?_⟩
      rw [HPST.out]
      exact ⟨HK46.out,Or.inr ⟨er,HR.out,rfl⟩⟩
     have HS46:=hid (show S46.s=S45.s by rw [name_keeps h46])
     have HE46:=hid (HE45.out.trans (bind_ok h46))
     have P46:=hid p46
     clear h46 p46
     have HW46:=hid (show S46.s.wher.length<=500 by rw [HS46.out];exact HW45.out)
     obtain ⟨_,_,L,hbx,_,_⟩:=P46.out.open
     have c10:=jC hbx 10
     have f10:=free_of hbx 10
     simp only [boxC,List.getElem?_toArray,List.getElem?_cons_zero,List.getElem?_cons_succ] at c10
     clear hbx
     have st0:=P46.out.store (j:=10) (v:=.string nm46) (s':={ S46.s with join:=nm46 }) (fun _ _=>rfl) ⟨rfl,rfl,rfl,rfl,rfl,rfl⟩
     have P47:=hid (show PAt X b en ({ S46 with s:={ S46.s with join:=nm46 } }:PS) _ from st0.1)
     have HK47:=hid (HK46.out.leaf st0.2 NB.out)
     have HE47:=hid (HE46.out.trans (bind_ok (a:=()) (S':=({ S46 with s:={ S46.s with join:=nm46 } }:PS)) rfl))
     clear st0
     go_upto_region 16 with (fail)
     obtain ⟨w47,hw47⟩:∃ x,x=World.setCell (w46) ⟨b,10,none⟩ (.string nm46):=⟨_,rfl⟩
     obtain ⟨S47,hS47⟩:∃ T,T=({ S46 with s:={ S46.s with join:=nm46 } }:PS):=⟨_,rfl⟩
     rw [<- hw47] at P47 HK47 ⊢
     rw [<- hS47] at P47 HE47
     have HS47:=hid hS47
     clear hw47 hS47 c10 f10
     have HW47:=hid (show S47.s.wher.length<=500 by rw [HS47.out];exact HW46.out)
     have con:=must_any (P47.out.below ((b0R).alloc (jR _) (.cells #[.string w_on] 9))) (words_at w47 [w_on] (by simp)) (fun k hk=>by have:=P47.out.lt_box;omega)
     go_wp2_with fail
     refine con.mono ?_
     rintro e w48 ⟨g,h⟩
     have HK48:=hid (HK47.out.leaf ((World.grownBy_alloc w47 (.cells #[.string w_on] 9) (some b)).trans g.g) NB.out)
     clear con g
     obtain ⟨S48,h48,rfl,p48⟩|⟨er,h48,rfl⟩:=h
     case inr =>
      have HR:=hid (show selM en S=.error er from HE44.out.trans (bind_error (HE47.out.trans (bind_error h48))))
      clear h48
      go_wp2_with fail
      refine ⟨rfl,?_⟩
      rw [HPST.out]
      exact ⟨HK48.out,Or.inr ⟨er,HR.out,rfl⟩⟩
     have HS48:=hid (show S48.s=S47.s from (must_state h48).1)
     have HE48:=hid (HE47.out.trans (bind_ok h48))
     have P48:=hid p48
     clear h48 p48
     have HW48:=hid (show S48.s.wher.length<=500 by rw [HS48.out];exact HW47.out)
     have con:=name_any P48.out
     go_wp2_with fail
     refine con.mono ?_
     rintro e w49 ⟨g,h⟩
     have HK49:=hid (HK48.out.leaf g.g NB.out)
     clear con g
     obtain ⟨nm49,S49,h49,rfl,p49⟩|⟨er,h49,rfl⟩:=h
     case inr =>
      have HR:=hid (show selM en S=.error er from HE44.out.trans (bind_error (HE48.out.trans (bind_error h49))))
      clear h49
      go_wp2_with fail
      refine ⟨rfl,?_⟩
      rw [HPST.out]
      exact ⟨HK49.out,Or.inr ⟨er,HR.out,rfl⟩⟩
     have HS49:=hid (show S49.s=S48.s by rw [name_keeps h49])
     have HE49:=hid (HE48.out.trans (bind_ok h49))
     have P49:=hid p49
     clear h49 p49
     have HW49:=hid (show S49.s.wher.length<=500 by rw [HS49.out];exact HW48.out)
     obtain ⟨_,_,L,hbx,_,_⟩:=P49.out.open
     have c11:=jC hbx 11
     have f11:=free_of hbx 11
     simp only [boxC,List.getElem?_toArray,List.getElem?_cons_zero,List.getElem?_cons_succ] at c11
     clear hbx
     have st0:=P49.out.store (j:=11) (v:=.string nm49) (s':={ S49.s with left:=nm49 }) (fun _ _=>rfl) ⟨rfl,rfl,rfl,rfl,rfl,rfl⟩
     have P50:=hid (show PAt X b en ({ S49 with s:={ S49.s with left:=nm49 } }:PS) _ from st0.1)
     have HK50:=hid (HK49.out.leaf st0.2 NB.out)
     have HE50:=hid (HE49.out.trans (bind_ok (a:=()) (S':=({ S49 with s:={ S49.s with left:=nm49 } }:PS)) rfl))
     clear st0
     go_upto_region 18 with (fail)
     obtain ⟨w50,hw50⟩:∃ x,x=World.setCell (w49) ⟨b,11,none⟩ (.string nm49):=⟨_,rfl⟩
     obtain ⟨S50,hS50⟩:∃ T,T=({ S49 with s:={ S49.s with left:=nm49 } }:PS):=⟨_,rfl⟩
     rw [<- hw50] at P50 HK50 ⊢
     rw [<- hS50] at P50 HE50
     have HS50:=hid hS50
     clear hw50 hS50 c11 f11
     have HW50:=hid (show S50.s.wher.length<=500 by rw [HS50.out];exact HW49.out)
     have con:=must_any (P50.out.below ((b0R).alloc (jR _) (.cells #[.string w_eq] 9))) (words_at w50 [w_eq] (by simp)) (fun k hk=>by have:=P50.out.lt_box;omega)
     go_wp2_with fail
     refine con.mono ?_
     rintro e w51 ⟨g,h⟩
     have HK51:=hid (HK50.out.leaf ((World.grownBy_alloc w50 (.cells #[.string w_eq] 9) (some b)).trans g.g) NB.out)
     clear con g
     obtain ⟨S51,h51,rfl,p51⟩|⟨er,h51,rfl⟩:=h
     case inr =>
      have HR:=hid (show selM en S=.error er from HE44.out.trans (bind_error (HE50.out.trans (bind_error h51))))
      clear h51
      go_wp2_with fail
      refine ⟨rfl,?_⟩
      rw [HPST.out]
      exact ⟨HK51.out,Or.inr ⟨er,HR.out,rfl⟩⟩
     have HS51:=hid (show S51.s=S50.s from (must_state h51).1)
     have HE51:=hid (HE50.out.trans (bind_ok h51))
     have P51:=hid p51
     clear h51 p51
     have HW51:=hid (show S51.s.wher.length<=500 by rw [HS51.out];exact HW50.out)
     have con:=name_any P51.out
     go_wp2_with fail
     refine con.mono ?_
     rintro e w52 ⟨g,h⟩
     have HK52:=hid (HK51.out.leaf g.g NB.out)
     clear con g
     obtain ⟨nm52,S52,h52,rfl,p52⟩|⟨er,h52,rfl⟩:=h
     case inr =>
      have HR:=hid (show selM en S=.error er from HE44.out.trans (bind_error (HE51.out.trans (bind_error h52))))
      clear h52
      go_wp2_with fail
      refine ⟨rfl,?_⟩
      rw [HPST.out]
      exact ⟨HK52.out,Or.inr ⟨er,HR.out,rfl⟩⟩
     have HS52:=hid (show S52.s=S51.s by rw [name_keeps h52])
     have HE52:=hid (HE51.out.trans (bind_ok h52))
     have P52:=hid p52
     clear h52 p52
     have HW52:=hid (show S52.s.wher.length<=500 by rw [HS52.out];exact HW51.out)
     obtain ⟨_,_,L,hbx,_,_⟩:=P52.out.open
     have c12:=jC hbx 12
     have f12:=free_of hbx 12
     simp only [boxC,List.getElem?_toArray,List.getElem?_cons_zero,List.getElem?_cons_succ] at c12
     clear hbx
     go_wp2_with fail
     go_meet
     have st0:=P52.out.store (j:=12) (v:=.string nm52) (s':={ S52.s with right:=nm52 }) (fun _ _=>rfl) ⟨rfl,rfl,rfl,rfl,rfl,rfl⟩
     exact ⟨_,HE52.out,st0.1,HK52.out.leaf st0.2 NB.out,HW52.out⟩
   case rest =>
    obtain ⟨S60,hM,hp,hk,hphi⟩:=hcut
    obtain ⟨w60,hw60⟩:∃ x,x=wc:=⟨_,rfl⟩
    rw [<- hw60] at hp hk ⊢
    have HE60:=hid (HE44.out.trans (bind_ok hM))
    have P60:=hid hp
    have HK60:=hid hk
    have PH60:=hid hphi
    clear hM hp hk hphi hw60
    have HZ60:=hid (show S60.s.wher.length<=500 from PH60.out)
    have con:=where_any P60.out HZ60.out
    go_wp2_with fail
    refine con.mono ?_
    rintro e w61 ⟨g,h⟩
    have HK61:=hid (HK60.out.trans g)
    clear con g
    obtain ⟨S61,h61,rfl,p61⟩|⟨er,h61,rfl⟩:=h
    case inr =>
     have HR:=hid (show selM en S=.error er from HE60.out.trans (bind_error h61))
     clear h61
     go_wp2_with fail
     refine ⟨rfl,?_⟩
     rw [HPST.out]
     exact ⟨HK61.out,Or.inr ⟨er,HR.out,rfl⟩⟩
    have HE61:=hid (HE60.out.trans (bind_ok h61))
    have P61:=hid p61
    clear h61 p61
    obtain ⟨_,_,L,hbx,_,_⟩:=P61.out.open
    have c13:=jC hbx 13
    simp only [boxC,List.getElem?_toArray,List.getElem?_cons_zero,List.getElem?_cons_succ] at c13
    clear hbx
    by_cases hz:S61.s.agg=0
    case neg =>
     have e0:(S61.s.agg == 0)=false:=by simpa using hz
     have HE61:=hid (show selM en S=.ok ((),S61) from HE61.out.trans (show orderM en S61=.ok ((),S61) from if_neg hz))
     clear hz
     go_wp2_with fail
     go_end0
     rw [HPST.out]
     exact ⟨HK61.out,Or.inl ⟨_,HE61.out,rfl,P61.out⟩⟩
    case pos =>
     rw [hz] at c13
     have HE61:=hid (HE61.out.trans ((show orderM en S61=orderB en S61 from if_pos hz).trans (congrFun (orderB_eq en) S61)))
     clear hz
     have con:=may_any (P61.out.below ((b0R).alloc (jR _) (.cells #[.string w_order] 9))) (words_at w61 [w_order] (by simp))
     go_wp2_with fail
     refine con.mono ?_
     rintro e w62 ⟨g,h⟩
     have HK62:=hid (HK61.out.leaf ((World.grownBy_alloc w61 (.cells #[.string w_order] 9) (some b)).trans g.g) NB.out)
     clear con g
     cases hi:isB [w_order] S61.l with
     | false =>
      rw [may_miss hi] at h
      obtain ⟨_,_,h,rfl,p62⟩|⟨_,h,_⟩:=h
      rotate_left
      · cases h
      cases h
      have P62:=hid p62
      obtain ⟨S62,hS62⟩:∃ T,T=(S61:PS):=⟨_,rfl⟩
      have HE62:=hid ((HE61.out.trans (bind_ok (may_miss hi))).trans (congrFun (if_neg Bool.false_ne_true) _))
      rw [<- hS62] at P62 HE62
      have HS62:=hid (show S62.s=S61.s by rw [hS62])
      clear p62 hS62 hi
      go_wp2_with fail
      go_end0
      rw [HPST.out]
      exact ⟨HK62.out,Or.inl ⟨_,HE62.out,rfl,P62.out⟩⟩
     | true =>
      rw [may_hit hi] at h
      obtain ⟨_,_,h,rfl,p62⟩|⟨_,h,_⟩:=h
      rotate_left
      · cases h
      cases h
      have P62:=hid p62
      obtain ⟨S62,hS62⟩:∃ T,T=({ S61 with l:=S61.l.drop [w_order].length }:PS):=⟨_,rfl⟩
      have HE62:=hid ((HE61.out.trans (bind_ok (may_hit hi))).trans (congrFun (if_pos rfl) _))
      rw [<- hS62] at P62 HE62
      have HS62:=hid (show S62.s=S61.s by rw [hS62])
      clear p62 hS62 hi
      have con:=must_any (P62.out.below ((b0R).alloc (jR _) (.cells #[.string w_by] 9))) (words_at w62 [w_by] (by simp)) (fun k hk=>by have:=P62.out.lt_box;omega)
      go_wp2_with fail
      refine con.mono ?_
      rintro e w63 ⟨g,h⟩
      have HK63:=hid (HK62.out.leaf ((World.grownBy_alloc w62 (.cells #[.string w_by] 9) (some b)).trans g.g) NB.out)
      clear con g
      obtain ⟨S63,h63,rfl,p63⟩|⟨er,h63,rfl⟩:=h
      case inr =>
       have HR:=hid (show selM en S=.error er from HE62.out.trans (bind_error h63))
       clear h63
       go_wp2_with fail
       refine ⟨rfl,?_⟩
       rw [HPST.out]
       exact ⟨HK63.out,Or.inr ⟨er,HR.out,rfl⟩⟩
      have HS63:=hid (show S63.s=S62.s from (must_state h63).1)
      have HE63:=hid (HE62.out.trans (bind_ok h63))
      have P63:=hid p63
      clear h63 p63
      have con:=columns_any (most:=6) (by omega) P63.out
      go_wp2_with fail
      refine con.mono ?_
      rintro e w64 ⟨g,⟨Ln,S64,v64,h,rfl,o,l,p⟩|⟨er,h,rfl⟩⟩
      case inr =>
       have HR:=hid (show selM en S=.error er from HE63.out.trans (bind_error h))
       have HK64:=hid (HK63.out.leaf g NB.out)
       clear con h g
       go_wp2_with fail
       refine ⟨rfl,?_⟩
       rw [HPST.out]
       exact ⟨HK64.out,Or.inr ⟨er,HR.out,rfl⟩⟩
      have HE64:=hid (show selM en S=.ok ((),{ S64 with s:={ S64.s with order:=Ln } }) from HE63.out.trans (bind_ok h))
      have HK64:=hid (HK63.out.leaf g NB.out)
      obtain ⟨ua,uc,rfl,_⟩:=owns_shape' o
      have P64:=hid p
      have O64:=hid o
      have HV64:=hid (show ∀ g,(Value.slice ua Ln.length uc).ownBlock=some g->¬ X g from fun g hg hx=>absurd (P63.out.lt g hx) (Nat.not_lt.2 (own_ge o hg)))
      obtain ⟨_,_,L,hbx,_,_⟩:=P64.out.open
      have c14:=jC hbx 14
      have f14:=free_of hbx 14
      simp only [boxC,List.getElem?_toArray,List.getElem?_cons_zero,List.getElem?_cons_succ] at c14
      clear con h g o p l hbx
      go_wp2_with fail
      go_end0
      rw [HPST.out]
      have st:=P64.out.put_order O64.out HV64.out
      exact ⟨HK64.out.leaf st.2 NB.out,Or.inl ⟨_,HE64.out,rfl,st.1⟩⟩
end
section
open Go.RowKit
structure QAt (X:Nat->Prop) (b:Nat) (l:List ByteArray) (w:World):Prop where
 env:EnvL w
 glob:∀ k,Glob k->k<b
 old:∀ k,k<b->X k
 lt:∀ k,X k->k<w.heap.size
 nb:¬ X b
 box:∃ v,w.heap[b]? = some (.cells #[v] 104 (0,0))/\Own1 X w 9 1 v l.length (l.flatMap strEnc)
theorem QAt.lt_box {X:Nat->Prop} {b:Nat} {l:List ByteArray} {w:World} (h:QAt X b l w):b<w.heap.size:=by
 obtain ⟨_,h1,_⟩:=h.box
 exact jB h1
theorem QAt.below {X:Nat->Prop} {b:Nat} {l:List ByteArray} {w w':World} (h:QAt X b l w) (g:Below w.heap.size w w'):QAt X b l w':=by
 obtain ⟨v,h1,h2⟩:=h.box
 exact ⟨h.env.below g,h.glob,h.old,fun k hk=>jL (h.lt k hk) g.size,h.nb,⟨v,(g.block _ (jB h1)).trans h1,h2.below g⟩⟩
theorem QAt.more {X Y:Nat->Prop} {b:Nat} {l:List ByteArray} {w w':World} (h:QAt X b l w) (g:Below w.heap.size w w') (hx:∀ k,X k->Y k) (hy:∀ k,Y k->X k \/ (w.heap.size<=k/\k<w'.heap.size)):QAt Y b l w':=by
 obtain ⟨v,h1,h2⟩:=h.box
 have hk:∀ k,k<w.heap.size->Y k->X k:=fun k hk hY=>by
  rcases hy k hY with e|e
  · exact e
  · omega
 refine ⟨h.env.below g,h.glob,fun k hl=>hx k (h.old k hl),fun k hY=>?_,fun e=>h.nb (hk b (jB h1) e),⟨v,(g.block _ (jB h1)).trans h1,(h2.weaken hk).below g⟩⟩
 rcases hy k hY with e|e
 · exact jL (h.lt k e) g.size
 · exact e.2
theorem QAt.fewer {X Y:Nat->Prop} {b:Nat} {l:List ByteArray} {w:World} (h:QAt X b l w) (hx:∀ k,Y k->X k) (ho:∀ k,k<b->Y k):QAt Y b l w:=by
 obtain ⟨v,h1,h2⟩:=h.box
 exact ⟨h.env,h.glob,ho,fun k hY=>h.lt k (hx k hY),fun e=>h.nb (hx b e),⟨v,h1,h2.weaken fun k _=>hx k⟩⟩
def QStep (X:Nat->Prop) (b:Nat) (l:List ByteArray) (w:World) (e:Ending) (w':World):Prop :=
 e=.returned (.tuple #[])/\Kept X w w'/\QAt X b l w'
theorem QStep.from {X:Nat->Prop} {b:Nat} {l:List ByteArray} {w w1 w':World} {e:Ending} (k:Kept X w w1) (h:QStep X b l w1 e w'):QStep X b l w e w':=⟨h.1,k.trans h.2.1,h.2.2⟩
theorem QStep.with {X:Nat->Prop} {b:Nat} {l l':List ByteArray} {w w1:World} {e:Ending} {w':World} (h:QAt X b l w) (g:Below w.heap.size w w1) (s:QStep (fun k=>X k \/ (w.heap.size<=k/\k<w1.heap.size)) b l' w1 e w'):QStep X b l' w e w' :=
 ⟨s.1,(Below.kept g X).trans (s.2.1.weaken fun _ _ hk=>Or.inl hk),s.2.2.fewer (fun _ hk=>Or.inl hk) h.old⟩
theorem QAt.push {X:Nat->Prop} {b:Nat} {l L:List ByteArray} {w w5:World} {v v':Value} (h:QAt X b l w) (hb:w.heap[b]? = some (.cells #[v] 104 (0,0))) (ho:Own1 X w 9 1 v l.length (l.flatMap strEnc))
 (o5:w5.ownsRow 0 9 1 v' (l.length+L.length) (l.flatMap strEnc ++ L.flatMap strEnc)) (g5:w.grownBy w5 v.ownBlock) (at5:v'.ownBlock=v.ownBlock \/ v'.ownBlock=some w.heap.size) :
 Kept X w (w5.setCell ⟨b,0,none⟩ v')/\QAt X b (l ++ L) (w5.setCell ⟨b,0,none⟩ v'):=by
 have hne:some b ≠ v.ownBlock:=row_not hb ho.1 (by decide)
 have hb5:w5.heap[b]? = some (.cells #[v] 104 (0,0)):=(g5.block b (jB hb) hne).trans hb
 have k5:Kept X w w5:=grown_kept g5 fun k e=>ho.2 k e
 have gs:=grown_set w5 b 0 v'
 have ks:Kept X w5 (w5.setCell ⟨b,0,none⟩ v'):=grown_kept gs fun k e=>by cases e;exact h.nb
 have k:=k5.trans ks
 have o':Own1 X w5 9 1 v' (l.length+L.length) (l.flatMap strEnc ++ L.flatMap strEnc):=Own1.fresh h.lt ho.2 o5 at5
 refine ⟨k,h.env.same fun j hj hl=>k.block j (h.old j (h.glob j hj)) hl,h.glob,h.old,fun j hj=>jL (h.lt j hj) k.size,h.nb,⟨v',heap_setCell_same _ _ 0 _ _ v' hb5,?_⟩⟩
 rw [List.length_append,List.flatMap_append]
 exact o'.kept hb5 (by decide) gs
theorem add_any {X:Nat->Prop} {b:Nat} {l L:List ByteArray} {w:World} {va:Value} (h:QAt X b l w) (hL:SlV strF X w va L) (hl:l.length+L.length<=1000000) :
 Calls Tryz.prog 68 #[.pointer (some ⟨b,0,none⟩),va] w (QStep X b (l ++ L) w):=by
 obtain ⟨Pst,hPst⟩:∃ Pst,Pst=QStep X b (l ++ L) w:=⟨_,rfl⟩
 have HPST:=hid hPst
 rw [<- hPst]
 have H:=hid h
 obtain ⟨v,hb,ho⟩:=h.box
 have HB:=hid hb
 have HO:=hid ho
 obtain ⟨a,c,rfl,h3,h4,h5⟩:=hL
 have H5:=hid h5
 obtain ⟨oa,oc,rfl,_⟩:=owns_shape' ho.1
 have k0:=jC hb 0
 have f0:=free_of hb 0
 simp only [List.getElem?_toArray,List.getElem?_cons_zero] at k0
 obtain ⟨i0,hi,hz0,hz1,hz2⟩:=info_parts (show (Tryz.prog.info? 9).map (fun i=>(i.zero,i.size,i.bytes))=some (some (.string ByteArray.empty),1,16) by kernel_rfl)
 clear hPst h hb ho h5
 go_enter Tryz.func68,Tryz.ntmps68
 go_wp2_with (at_builtin;go_loud (refine wpList_append_flat_at rfl _ _ 27 rfl 0 9 i0 _ 1 16 Tryz.underlying27 hi hz0 hz1 hz2 rfl (by decide) (.slice oa l.length oc) l.length _ rfl HO.out.1 L a c rfl H5.out (str_cells L) (by unfold maxLen;omega) (by omega) (Nat.zero_le _) ?_;intro v' w5 o5 g5 at5;have N5:=hid (H.out.push HB.out HO.out o5 g5 at5);have hb5:=(g5.block b (jB HB.out) (row_not HB.out HO.out.1 (by decide))).trans HB.out;have m5:=jC hb5 0;have n5:=free_of hb5 0;simp only [List.getElem?_toArray,List.getElem?_cons_zero] at m5;obtain ⟨va,vc,rfl,-⟩:=owns_shape' o5;clear o5 g5 at5 hb5))
 go_end0
 rw [HPST.out]
 exact ⟨rfl,N5.out⟩
theorem add_words {X:Nat->Prop} {b:Nat} {l:List ByteArray} {w w1:World} (L:List ByteArray) (hn:L.length<=1000) (h:QAt X b l w) (hw:w.alloc (.cells (L.map Value.string).toArray 9)=w1) (hl:l.length+L.length<=1000000) :
 Calls Tryz.prog 68 #[.pointer (some ⟨b,0,none⟩),.slice (some ⟨w.heap.size,0,none⟩) L.length L.length] w1 (QStep X b (l ++ L) w):=by
 have g:Below w.heap.size w w1:=by rw [<- hw];exact (b0R).alloc (jR _) _
 refine (add_any (h.more (Y:=fun k=>X k \/ (w.heap.size<=k/\k<w1.heap.size)) g (fun _ hk=>Or.inl hk) (fun _ hk=>hk)) ?_ hl).mono fun e w' s=>QStep.with h g s
 rw [<- hw]
 exact (words_at w L hn).weaken fun k e=>Or.inr ⟨by rw [e];exact jR _,by rw [e];simp⟩
end
section
open Go.RowKit
def stC (L:Lists) (s:Stmt):Array Value :=
 #[.int .i64 s.kind,.string s.table,.string s.name,L.cols,L.names,L.row,L.sets,L.wher,.string s.join,.string s.left,.string s.right,.int .i64 s.agg,L.order,.int .i64 s.mode,.int .i64 s.n]
structure SlsAt (p:Nat->Prop) (w:World) (L:Lists) (s:Stmt):Prop where
 cols:SlV colR p w L.cols s.cols
 names:SlV strF p w L.names s.names
 row:SlV valR p w L.row s.row
 sets:SlV setR p w L.sets s.sets
 wher:SlV condR p w L.wher s.wher
 order:SlV strF p w L.order s.order
theorem SlsAt.below {p:Nat->Prop} {w w':World} {L:Lists} {s:Stmt} (h:SlsAt p w L s) (b:Below w.heap.size w w'):SlsAt p w' L s :=
 ⟨h.cols.below b,h.names.below b,h.row.below b,h.sets.below b,h.wher.below b,h.order.below b⟩
theorem SlsAt.keep {p:Nat->Prop} {w w':World} {L:Lists} {s:Stmt} (h:SlsAt p w L s) (k:∀ j,p j->j<w.heap.size->w'.heap[j]? = w.heap[j]?):SlsAt p w' L s :=
 ⟨h.cols.keep k,h.names.keep k,h.row.keep k,h.sets.keep k,h.wher.keep k,h.order.keep k⟩
theorem SlsAt.weaken {p q:Nat->Prop} {w:World} {L:Lists} {s:Stmt} (h:SlsAt p w L s) (k:∀ j,p j->q j):SlsAt q w L s :=
 ⟨h.cols.weaken k,h.names.weaken k,h.row.weaken k,h.sets.weaken k,h.wher.weaken k,h.order.weaken k⟩
theorem SlsAt.bound {p:Nat->Prop} {w:World} {L:Lists} {s:Stmt} (h:SlsAt p w L s):SlsAt (fun k=>p k/\k<w.heap.size) w L s :=
 ⟨h.cols.bound,h.names.bound,h.row.bound,h.sets.bound,h.wher.bound,h.order.bound⟩
structure OwnL (B:Nat) (w:World) (L:Lists) (s:Stmt):Prop where
 cols:w.ownsRow B 62 2 L.cols s.cols.length (s.cols.flatMap colEnc)
 names:w.ownsRow B 9 1 L.names s.names.length (s.names.flatMap strEnc)
 row:w.ownsRow B 50 3 L.row s.row.length (s.row.flatMap valEnc)
 sets:w.ownsRow B 54 5 L.sets s.sets.length (s.sets.flatMap setEnc)
 wher:w.ownsRow B 52 5 L.wher s.wher.length (s.wher.flatMap condEnc)
 order:w.ownsRow B 9 1 L.order s.order.length (s.order.flatMap strEnc)
theorem Own1.base {X:Nat->Prop} {w:World} {e:TypeId} {sz:Nat} {v:Value} {n:Nat} {xs:List Value} (h:Own1 X w e sz v n xs) {b:Nat} (hb:∀ k,k<b->X k):w.ownsRow b e sz v n xs:=by
 obtain ⟨⟨hlen,⟨rfl,h0⟩|⟨g,cap,cur,rfl,h1,h2⟩⟩,h3⟩:=h
 · exact ⟨hlen,Or.inl ⟨rfl,h0⟩⟩
 · exact ⟨hlen,Or.inr ⟨g,cap,cur,rfl,Nat.le_of_not_lt fun hl=>h3 g rfl (hb g hl),h2⟩⟩
theorem LsAt.own {X:Nat->Prop} {w:World} {L:Lists} {s:Stmt} (h:LsAt X w L s) {b:Nat} (hb:∀ k,k<b->X k):OwnL b w L s :=
 ⟨h.cols.base hb,h.names.base hb,h.row.base hb,h.sets.base hb,h.wher.base hb,h.order.base hb⟩
theorem OwnL.below {B:Nat} {w w':World} {L:Lists} {s:Stmt} (h:OwnL B w L s) (b:Below w.heap.size w w'):OwnL B w' L s :=
 ⟨owns_below h.cols b,owns_below h.names b,owns_below h.row b,owns_below h.sets b,owns_below h.wher b,owns_below h.order b⟩
theorem OwnL.base {A B:Nat} {w:World} {L:Lists} {s:Stmt} (h:OwnL B w L s) (hb:A<=B):OwnL A w L s :=
 ⟨owns_base h.cols hb,owns_base h.names hb,owns_base h.row hb,owns_base h.sets hb,owns_base h.wher hb,owns_base h.order hb⟩
theorem OwnL.read {B:Nat} {w:World} {L:Lists} {s:Stmt} (h:OwnL B w L s) (hs:s.short 1000):SlsAt (fun k=>B<=k) w L s :=
 ⟨sl_owned h.cols (Nat.le_trans hs.cols (by decide)),sl_owned h.names (Nat.le_trans hs.names (by decide)),sl_owned h.row (Nat.le_trans hs.row (by decide)),sl_owned h.sets (Nat.le_trans hs.sets (by decide)),sl_owned h.wher (Nat.le_trans hs.wher (by decide)),sl_owned h.order (Nat.le_trans hs.order (by decide))⟩
end
section
open Go.RowKit
def sepN {α:Type} (bt:ByteArray) (f:α->List ByteArray) (L:List α) (k:Nat):List ByteArray:=sepP bt f (L.take k)
theorem sep_snoc {α:Type} (bt:ByteArray) (f:α->List ByteArray) (L:List α) (x:α):sepP bt f (L ++ [x])=sepP bt f L ++ ((if L.isEmpty then [] else [bt]) ++ f x):=by
 cases L with
 | nil=>simp [sepP]
 | cons y r=>simp [sepP,List.append_assoc]
theorem sep_next {α:Type} (bt:ByteArray) (f:α->List ByteArray) (L:List α) (k:Nat) (hk:k<L.length):sepN bt f L (k+1)=sepN bt f L k ++ ((if k=0 then [] else [bt]) ++ f L[k]):=by
 unfold sepN
 rw [List.take_succ_eq_append_getElem hk,sep_snoc]
 congr 2
 cases k with
 | zero=>simp
 | succ k =>
  cases L with
  | nil=>simp at hk
  | cons y r=>simp
theorem sep_len {α:Type} (bt:ByteArray) (f:α->List ByteArray) (m:Nat):∀ (L:List α),(∀ x ∈ L,(f x).length<=m)->(sepP bt f L).length<=L.length * (m+1)
 | [],_=>by simp [sepP]
 | x :: r,h=>by
  have h1:=h x (by simp)
  have h2:∀ (M:List α),(∀ y ∈ M,(f y).length<=m)->(M.flatMap fun y=>bt :: f y).length<=M.length * (m+1):=by
   intro M
   induction M with
   | nil=>simp
   | cons y s ih =>
    intro hM
    have h3:=hM y (by simp)
    have h4:=ih fun z hz=>hM z (by simp [hz])
    simp only [List.flatMap_cons,List.length_append,List.length_cons,Nat.succ_mul]
    omega
  have h3:=h2 r fun y hy=>h y (by simp [hy])
  simp only [sepP,List.length_append,List.length_cons,Nat.succ_mul]
  omega
theorem all_any {α:Type} {X:Nat->Prop} {b m:Nat} {l:List ByteArray} {L:List α} {f:α->List ByteArray} {bt:ByteArray} {g:FuncId} {c0 c1:Value} {w:World} (h:QAt X b l w)
 (eg:∀ args w,(callFunc g args).run Tryz.prog w=.ok (.enter g args) w)
 (hone:∀ (i:Nat) (hi:i<L.length) (acc:List ByteArray) (w1:World),QAt X b acc w1->Kept X w w1->acc.length<=900000->Calls Tryz.prog g #[.int .i64 i,c0,c1] w1 (QStep X b (acc ++ f L[i]) w1))
 (hf:∀ x ∈ L,(f x).length<=m) (hm:m<=10) (hl:l.length<=100000) (hL:L.length<=1000) :
 Calls Tryz.prog 69 #[.pointer (some ⟨b,0,none⟩),.int .i64 L.length,.string bt,.func (.func g) #[] #[c0,c1]] w (QStep X b (l ++ sepP bt f L) w):=by
 obtain ⟨Pst,hPst⟩:∃ Pst,Pst=QStep X b (l ++ sepP bt f L) w:=⟨_,rfl⟩
 have HPST:=hid hPst
 rw [<- hPst]
 have H:=hid h
 have HONE:=hid hone
 have HB:=hid (show ∀ k,k<=L.length->(l ++ sepN bt f L k).length<=890000 from fun k hk=>by
  have h1:=sep_len bt f m (L.take k) (fun x hx=>hf x (List.mem_of_mem_take hx))
  have h2:(L.take k).length * (m+1)<=1000 * 11:=Nat.mul_le_mul (by rw [List.length_take];omega) (by omega)
  rw [List.length_append]
  unfold sepN
  omega)
 obtain ⟨n,hn⟩:∃ n,n=L.length:=⟨_,rfl⟩
 have HN:=hid hn
 rw [<- hn] at hL ⊢
 clear h hone hf hm hl hPst hn
 go_enter Tryz.func69,Tryz.ntmps69
 go_wp2_with fail
 go_loopw [10] (fun ii wr=>∃ k:Nat,k<=n/\ii=.int .i64 k/\Hid (QAt X b (l ++ sepN bt f L k) wr)/\Hid (Kept X w wr)) (fun ii _=>n - (intOf ii).toNat)
 case atStart=>exact ⟨0,Nat.zero_le _,rfl,(by have h0:=H.out;simpa [sepN,sepP] using h0:QAt X b (l ++ sepN bt f L 0) w),Kept.refl _ _⟩
 case round =>
  obtain ⟨k,hk,rfl,HQ,HK⟩:=hrel
  by_cases hlt:k<n
  · have HLT:=hid (show k<L.length by rw [<- HN.out];exact hlt)
    have HBK:=hid (HB.out k (Nat.le_of_lt HLT.out))
    by_cases h0:k=0
    · have HS:=hid (show l ++ sepN bt f L (k+1)=(l ++ sepN bt f L k) ++ f (L[k]'HLT.out) by rw [sep_next bt f L k HLT.out,if_pos h0,List.nil_append,List.append_assoc])
      have con:=HONE.out k HLT.out _ wr HQ.out HK.out (Nat.le_trans HBK.out (by decide))
      have d0:decide (0<k)=false:=decide_eq_false (by omega)
      clear h0
      go_wp2_with fail
      refine con.mono ?_
      rintro e w2 ⟨rfl,k2,q2⟩
      have K2:=hid (HK.out.trans k2)
      have Q2:=hid (show QAt X b (l ++ sepN bt f L (k+1)) w2 by rw [HS.out];exact q2)
      clear con k2 q2
      go_wp2_with fail
      go_roundw
      case rel=>exact ⟨k+1,hlt,by go_num,Q2,K2⟩
      case measure=>simp [intOf];omega
    · have HS:=hid (show l ++ sepN bt f L (k+1)=((l ++ sepN bt f L k) ++ [bt]) ++ f (L[k]'HLT.out) by rw [sep_next bt f L k HLT.out,if_neg h0,List.append_assoc,List.append_assoc])
      have con:=add_words (w1:=wr.alloc (.cells ([bt].map Value.string).toArray 9)) [bt] (by simp) HQ.out rfl (Nat.le_trans (Nat.add_le_add_right HBK.out 1) (by decide))
      have d0:decide (0<k)=true:=decide_eq_true (by omega)
      clear h0
      go_wp2_with fail
      refine con.mono ?_
      rintro e w2 ⟨rfl,k2,q2⟩
      have K2:=hid (HK.out.trans k2)
      have con2:=HONE.out k HLT.out _ w2 q2 K2.out (by rw [List.length_append];have:=HBK.out;simp at this ⊢;omega)
      clear con k2 q2
      go_wp2_with fail
      refine con2.mono ?_
      rintro e w3 ⟨rfl,k3,q3⟩
      have K3:=hid (K2.out.trans k3)
      have Q3:=hid (show QAt X b (l ++ sepN bt f L (k+1)) w3 by rw [HS.out];exact q3)
      clear con2 k3 q3
      go_wp2_with fail
      go_roundw
      case rel=>exact ⟨k+1,hlt,by go_num,Q3,K3⟩
      case measure=>simp [intOf];omega
  · obtain rfl:k=n:=by omega
    go_wp2_with fail
    go_end0
    rw [HPST.out]
    refine ⟨rfl,HK.out,?_⟩
    have e:sepN bt f L k=sepP bt f L:=by unfold sepN;rw [HN.out,List.take_length]
    rw [<- e]
    exact HQ.out
end
end Go.Proofs.YtjcpccadmcglgaaGreatDoor
