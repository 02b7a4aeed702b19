/- slices.symMergeCmpFunc at rows: it merges two sorted runs. -/
import Derived.Deep.CutRange
import Derived.Test.YtgemihkcihigpaaGreatDoorZD7
set_option linter.unusedVariables false
set_option linter.unusedSimpArgs false
set_option maxRecDepth 100000
set_option maxHeartbeats 64000000
namespace Go.Proofs.YtgemihkcihigpaaGreatDoor
open Go.Lib (hid)
section
open Go.Shelf Go.RowKit Go.Lib Go.Sort
variable {α:Type} [Inhabited α]
theorem symLeft_s (enc:α->Value) (cf:α->α->Int) (g:Nat) (cb:Array Value) (blk off cap:Nat) (w0:World)
 (eg:∀ args w,(callFunc g args).run Tryz.prog w=.ok (.enter g args) w) (tag:α->Nat) (hS:SWO (ltOf cf)) (a b:Nat) (d0 d:Array α) (w:World) (hcmp:CmpLays1 Tryz.prog g cb enc cf blk off d0.size w0) (R:Row1 enc w0 blk off d0) (hs:d0.size=d.size) (S:SW enc w0 blk off d w) (h2:a+1<b) (hb:b<=d.size) (hsz:d.size<4611686018427387904)
 (s2:SortedIn (ltT (ltOf cf) tag) (a+1) b d) (hx:Cross tag a (a+1) b d) :
 Calls Tryz.prog 149 #[.slice (some ⟨blk,off,none⟩) d.size cap,.int .i64 a,.int .i64 ((a:Int)+1),.int .i64 b,.func (.func g) #[] cb] w fun e w'=>e=.returned (.tuple #[])/\∃ d',SW enc w0 blk off d' w'/\PermIn a b d d'/\SortedIn (ltT (ltOf cf) tag) a b d':=by
 have hcl0:=R.hO.cells
 simp only [Value.cells] at hcl0
 have hst:=R.hO.store Tryz.prog
 have mixed:Tryz.prog.follows .mixedOrders=true:=by kernel_rfl
 have HC:Aside _:=hcmp
 have S0:Aside (SW enc w0 blk off d w):=S
 have HX:=hid hx
 have HS:=hid s2
 clear S hcmp hx s2
 have q0:((a:Int)+1 - (a:Int) == 1)=true:=by simp;omega
 go_enter Tryz.func149,Tryz.ntmps149
 go_wp2
 go_loopg [10,11] (b - a) (fun g1 vi vj wr=>∃ (i j:Nat),vi=.int .i64 i/\vj=.int .i64 j/\a+1<=i/\i<=j/\j<=b/\j - i<=g1/\Aside (SW enc w0 blk off d wr)/\Hid ((i=a+1 \/ ltT (ltOf cf) tag d[i - 1]! d[a]! = true)/\(j=b \/ ltT (ltOf cf) tag d[j]! d[a]! = false)))
 case atStart=>exact ⟨a+1,b,by go_num,rfl,by omega,by omega,by omega,by omega,S0,⟨Or.inl rfl,Or.inl rfl⟩⟩
 case round =>
  clear S0
  obtain ⟨i,j,rfl,rfl,hi,hij,hj,hg1,S1,HE⟩:=hrel
  by_cases hlt:i<j
  · have hltz:(i:Int)<(j:Int):=by omega
    obtain ⟨c,hc⟩:∃ c:Nat,c=(i+j) / 2:=⟨_,rfl⟩
    have hci:i<=c:=by omega
    have hcj:c<j:=by omega
    have zc:((i:Int)+(j:Int)) / 2=(c:Int):=by omega
    have eT:=ltT_right (lt:=ltOf cf) (tag:=tag) (HX.out a c (Nat.le_refl _) (Nat.lt_succ_self _) (by omega) (by omega))
    have ET:=hid eT
    clear eT hc
    cases hlv:ltOf cf d[c]! d[a]! with
    | true =>
     obtain ⟨iN,hiN⟩:∃ q,q=c:=⟨_,rfl⟩
     obtain ⟨jN,hjN⟩:∃ q,q=a:=⟨_,rfl⟩
     have eai:((c:Int)).toNat=iN:=by omega
     have pai:(0:Int)<=(c:Int):=by omega
     have bai:(c:Int)<(d.size:Int):=by omega
     have rai:IntKind.i64.wrap ((c:Int))=(c:Int):=by rw [IntKind.wrap_i64];omega
     have eaj:((a:Int)).toNat=jN:=by omega
     have paj:(0:Int)<=(a:Int):=by omega
     have baj:(a:Int)<(d.size:Int):=by omega
     have raj:IntKind.i64.wrap ((a:Int))=(a:Int):=by rw [IntKind.wrap_i64];omega
     obtain ⟨xv,hxv⟩:∃ x,x=d[c]! := ⟨_,rfl⟩
     obtain ⟨yv,hyv⟩:∃ x,x=d[a]! := ⟨_,rfl⟩
     have la:=S1.out.cl R (by omega) (c) (by omega)
     have lb:=S1.out.cl R (by omega) (a) (by omega)
     rw [<- hxv,<- hiN] at la
     rw [<- hyv,<- hjN] at lb
     have hcc:=S1.out.cmp HC.out (by omega) xv yv
     have hv:cf xv yv<0:=by rw [hxv,hyv];exact of_decide_eq_true hlv
     have hd:decide (cf xv yv<0)=true:=decide_eq_true hv
     clear hxv hyv hiN hjN
     go_wp2_with fail
     go_quiet_grown (first|(go_at_fn g;refine Calls.grown_of (hcc _ _)))
     have S2:Aside (SW enc w0 blk off d (grow (wr.drewN nq) osq)):=S1.out.grown nq osq
     clear la lb hcc S1
     generalize grow (wr.drewN nq) osq=w2 at S2 ⊢
     clear nq osq
     clear eai eaj pai paj bai baj rai raj
     go_wp2
     go_roundg (j - (c+1))
     case measure=>omega
     case rel=>exact ⟨c+1,j,by go_num,rfl,by omega,by omega,hj,by omega,S2,⟨Or.inr (by rw [Nat.add_sub_cancel,ET.out];exact hlv),HE.out.2⟩⟩
    | false =>
     obtain ⟨iN,hiN⟩:∃ q,q=c:=⟨_,rfl⟩
     obtain ⟨jN,hjN⟩:∃ q,q=a:=⟨_,rfl⟩
     have eai:((c:Int)).toNat=iN:=by omega
     have pai:(0:Int)<=(c:Int):=by omega
     have bai:(c:Int)<(d.size:Int):=by omega
     have rai:IntKind.i64.wrap ((c:Int))=(c:Int):=by rw [IntKind.wrap_i64];omega
     have eaj:((a:Int)).toNat=jN:=by omega
     have paj:(0:Int)<=(a:Int):=by omega
     have baj:(a:Int)<(d.size:Int):=by omega
     have raj:IntKind.i64.wrap ((a:Int))=(a:Int):=by rw [IntKind.wrap_i64];omega
     obtain ⟨xv,hxv⟩:∃ x,x=d[c]! := ⟨_,rfl⟩
     obtain ⟨yv,hyv⟩:∃ x,x=d[a]! := ⟨_,rfl⟩
     have la:=S1.out.cl R (by omega) (c) (by omega)
     have lb:=S1.out.cl R (by omega) (a) (by omega)
     rw [<- hxv,<- hiN] at la
     rw [<- hyv,<- hjN] at lb
     have hcc:=S1.out.cmp HC.out (by omega) xv yv
     have hv:¬ cf xv yv<0:=by rw [hxv,hyv];exact of_decide_eq_false hlv
     have hd:decide (cf xv yv<0)=false:=decide_eq_false hv
     clear hxv hyv hiN hjN
     go_wp2_with fail
     go_quiet_grown (first|(go_at_fn g;refine Calls.grown_of (hcc _ _)))
     have S2:Aside (SW enc w0 blk off d (grow (wr.drewN nq) osq)):=S1.out.grown nq osq
     clear la lb hcc S1
     generalize grow (wr.drewN nq) osq=w2 at S2 ⊢
     clear nq osq
     clear eai eaj pai paj bai baj rai raj
     go_wp2
     go_roundg (c - i)
     case measure=>omega
     case rel=>exact ⟨i,c,rfl,rfl,hi,by omega,by omega,by omega,S2,⟨HE.out.1,Or.inr (by rw [ET.out];exact hlv)⟩⟩
  · obtain rfl:j=i:=by omega
    go_wp2
    go_loopg [13] (b - a) (fun g1 vk wr=>∃ (k:Nat) (dk:Array α),vk=.int .i64 k/\a<=k/\k+1<=j/\j - k<=g1+1/\dk.size=d.size/\Aside (SW enc w0 blk off dk wr)/\Hid (Rot a (a+1) (k+1) d dk/\PermIn a b d dk))
    case atStart=>exact ⟨a,d,rfl,Nat.le_refl _,by omega,by omega,rfl,S1,⟨Rot.idle (Or.inr rfl),permIn_refl d a b⟩⟩
    case round =>
     clear S1
     obtain ⟨k,dk,rfl,hak,hkj,hg2,hsk,S1,HR⟩:=hrel
     by_cases hlt2:k+1<j
     · have hltz:(k:Int)<(j:Int) - 1:=by omega
       obtain ⟨iN,hiN⟩:∃ q,q=k:=⟨_,rfl⟩
       obtain ⟨jN,hjN⟩:∃ q,q=k+1:=⟨_,rfl⟩
       have eai:((k:Int)).toNat=iN:=by omega
       have pai:(0:Int)<=(k:Int):=by omega
       have bai:(k:Int)<(d.size:Int):=by omega
       have rai:IntKind.i64.wrap ((k:Int))=(k:Int):=by rw [IntKind.wrap_i64];omega
       have eaj:((k:Int)+1).toNat=jN:=by omega
       have paj:(0:Int)<=(k:Int)+1:=by omega
       have baj:(k:Int)+1<(d.size:Int):=by omega
       have raj:IntKind.i64.wrap ((k:Int)+1)=(k:Int)+1:=by rw [IntKind.wrap_i64];omega
       obtain ⟨xv,hxv⟩:∃ x,x=dk[k]! := ⟨_,rfl⟩
       obtain ⟨yv,hyv⟩:∃ x,x=dk[k+1]! := ⟨_,rfl⟩
       have S3:Aside (SW enc w0 blk off (swp dk (k) (k+1)) ((wr.setCell ⟨blk,off+iN,none⟩ (enc yv)).setCell ⟨blk,off+jN,none⟩ (enc xv)).drew):=by rw [hiN,hjN,hxv,hyv];exact S1.out.swapped R (k) (k+1) (by omega) (by omega)
       have ca:=S1.out.c1 R (by omega) (k) (by omega)
       have cb':=S1.out.c1 R (by omega) (k+1) (by omega)
       have fa:=S1.out.f1 R (by omega) (k) (by omega)
       have fb:=S1.out.f1 R (by omega) (k+1) (by omega)
       obtain ⟨uu,cu⟩:=S1.out.c2 R (by omega) (k) (k+1) (by omega) (by omega) (enc yv)
       rw [<- hjN,<- hiN] at cu
       rw [<- hxv,<- hiN] at ca
       rw [<- hyv,<- hjN] at cb'
       rw [<- hiN] at fa
       rw [<- hjN] at fb
       clear S1 hxv hyv hiN hjN
       go_wp2_with fail
       go_big_region_o
       clear ca cb' cu fa fb
       generalize ((wr.setCell ⟨blk,off+iN,none⟩ (enc yv)).setCell ⟨blk,off+jN,none⟩ (enc xv)).drew=w3 at S3 ⊢
       clear eai eaj pai paj bai baj rai raj
       go_wp2
       go_roundg (j - (k+1) - 1)
       case measure=>omega
       case rel=>exact ⟨k+1,swp dk k (k+1),by go_num,by omega,by omega,by omega,by rw [size_swp];exact hsk,S3,⟨HR.out.1.bubble_up (by omega) hak,permIn_trans _ _ _ _ _ HR.out.2 (swp_permIn dk a b k (k+1) (by omega) (by omega) (by omega) (by omega) (by omega))⟩⟩
     · have hltz:¬ (k:Int)<(j:Int) - 1:=by omega
       have HJ:=hid (show j=k+1 by omega)
       go_wp2
       refine bodyPost_ret (v:=.tuple #[]) (results_none rfl _ _ _) rfl ?_
       exact ⟨rfl,dk,S1.out,HR.out.2,single_left (ltT_swo hS) (by omega) (by omega) HS.out HE.out.1 HE.out.2 (by rw [HJ.out];exact HR.out.1)⟩
theorem symRight_s (enc:α->Value) (cf:α->α->Int) (g:Nat) (cb:Array Value) (blk off cap:Nat) (w0:World)
 (eg:∀ args w,(callFunc g args).run Tryz.prog w=.ok (.enter g args) w) (tag:α->Nat) (hS:SWO (ltOf cf)) (a m:Nat) (d0 d:Array α) (w:World) (hcmp:CmpLays1 Tryz.prog g cb enc cf blk off d0.size w0) (R:Row1 enc w0 blk off d0) (hs:d0.size=d.size) (S:SW enc w0 blk off d w) (h2:a+1<m) (hb:m+1<=d.size) (hsz:d.size<4611686018427387904)
 (s2:SortedIn (ltT (ltOf cf) tag) a m d) (hx:Cross tag a m (m+1) d) :
 Calls Tryz.prog 149 #[.slice (some ⟨blk,off,none⟩) d.size cap,.int .i64 a,.int .i64 m,.int .i64 ((m:Int)+1),.func (.func g) #[] cb] w fun e w'=>e=.returned (.tuple #[])/\∃ d',SW enc w0 blk off d' w'/\PermIn a (m+1) d d'/\SortedIn (ltT (ltOf cf) tag) a (m+1) d':=by
 have hcl0:=R.hO.cells
 simp only [Value.cells] at hcl0
 have hst:=R.hO.store Tryz.prog
 have mixed:Tryz.prog.follows .mixedOrders=true:=by kernel_rfl
 have HC:Aside _:=hcmp
 have S0:Aside (SW enc w0 blk off d w):=S
 have HX:=hid hx
 have HS:=hid s2
 clear S hcmp hx s2
 have q0:((m:Int) - (a:Int) == 1)=false:=by simp;omega
 have q1:((m:Int)+1 - (m:Int) == 1)=true:=by simp;omega
 go_enter Tryz.func149,Tryz.ntmps149
 go_wp2
 go_loopg [14,15] (m - a) (fun g1 vi vj wr=>∃ (i j:Nat),vi=.int .i64 i/\vj=.int .i64 j/\a<=i/\i<=j/\j<=m/\j - i<=g1/\Aside (SW enc w0 blk off d wr)/\Hid ((i=a \/ ltT (ltOf cf) tag d[m]! d[i - 1]! = false)/\(j=m \/ ltT (ltOf cf) tag d[m]! d[j]! = true)))
 case atStart=>exact ⟨a,m,rfl,rfl,Nat.le_refl _,by omega,by omega,by omega,S0,⟨Or.inl rfl,Or.inl rfl⟩⟩
 case round =>
  clear S0
  obtain ⟨i,j,rfl,rfl,hi,hij,hj,hg1,S1,HE⟩:=hrel
  by_cases hlt:i<j
  · have hltz:(i:Int)<(j:Int):=by omega
    obtain ⟨c,hc⟩:∃ c:Nat,c=(i+j) / 2:=⟨_,rfl⟩
    have hci:i<=c:=by omega
    have hcj:c<j:=by omega
    have zc:((i:Int)+(j:Int)) / 2=(c:Int):=by omega
    have eT:=ltT_right (lt:=ltOf cf) (tag:=tag) (HX.out c m (by omega) (by omega) (Nat.le_refl _) (Nat.lt_succ_self _))
    have ET:=hid eT
    clear eT hc
    cases hlv:ltOf cf d[m]! d[c]! with
    | true =>
     obtain ⟨iN,hiN⟩:∃ q,q=m:=⟨_,rfl⟩
     obtain ⟨jN,hjN⟩:∃ q,q=c:=⟨_,rfl⟩
     have eai:((m:Int)).toNat=iN:=by omega
     have pai:(0:Int)<=(m:Int):=by omega
     have bai:(m:Int)<(d.size:Int):=by omega
     have rai:IntKind.i64.wrap ((m:Int))=(m:Int):=by rw [IntKind.wrap_i64];omega
     have eaj:((c:Int)).toNat=jN:=by omega
     have paj:(0:Int)<=(c:Int):=by omega
     have baj:(c:Int)<(d.size:Int):=by omega
     have raj:IntKind.i64.wrap ((c:Int))=(c:Int):=by rw [IntKind.wrap_i64];omega
     obtain ⟨xv,hxv⟩:∃ x,x=d[m]! := ⟨_,rfl⟩
     obtain ⟨yv,hyv⟩:∃ x,x=d[c]! := ⟨_,rfl⟩
     have la:=S1.out.cl R (by omega) (m) (by omega)
     have lb:=S1.out.cl R (by omega) (c) (by omega)
     rw [<- hxv,<- hiN] at la
     rw [<- hyv,<- hjN] at lb
     have hcc:=S1.out.cmp HC.out (by omega) xv yv
     have hv:cf xv yv<0:=by rw [hxv,hyv];exact of_decide_eq_true hlv
     have hd:decide (cf xv yv<0)=true:=decide_eq_true hv
     clear hxv hyv hiN hjN
     go_wp2_with fail
     go_quiet_grown (first|(go_at_fn g;refine Calls.grown_of (hcc _ _)))
     have S2:Aside (SW enc w0 blk off d (grow (wr.drewN nq) osq)):=S1.out.grown nq osq
     clear la lb hcc S1
     generalize grow (wr.drewN nq) osq=w2 at S2 ⊢
     clear nq osq
     clear eai eaj pai paj bai baj rai raj
     go_wp2
     go_roundg (c - i)
     case measure=>omega
     case rel=>exact ⟨i,c,rfl,rfl,hi,by omega,by omega,by omega,S2,⟨HE.out.1,Or.inr (by rw [ET.out];exact hlv)⟩⟩
    | false =>
     obtain ⟨iN,hiN⟩:∃ q,q=m:=⟨_,rfl⟩
     obtain ⟨jN,hjN⟩:∃ q,q=c:=⟨_,rfl⟩
     have eai:((m:Int)).toNat=iN:=by omega
     have pai:(0:Int)<=(m:Int):=by omega
     have bai:(m:Int)<(d.size:Int):=by omega
     have rai:IntKind.i64.wrap ((m:Int))=(m:Int):=by rw [IntKind.wrap_i64];omega
     have eaj:((c:Int)).toNat=jN:=by omega
     have paj:(0:Int)<=(c:Int):=by omega
     have baj:(c:Int)<(d.size:Int):=by omega
     have raj:IntKind.i64.wrap ((c:Int))=(c:Int):=by rw [IntKind.wrap_i64];omega
     obtain ⟨xv,hxv⟩:∃ x,x=d[m]! := ⟨_,rfl⟩
     obtain ⟨yv,hyv⟩:∃ x,x=d[c]! := ⟨_,rfl⟩
     have la:=S1.out.cl R (by omega) (m) (by omega)
     have lb:=S1.out.cl R (by omega) (c) (by omega)
     rw [<- hxv,<- hiN] at la
     rw [<- hyv,<- hjN] at lb
     have hcc:=S1.out.cmp HC.out (by omega) xv yv
     have hv:¬ cf xv yv<0:=by rw [hxv,hyv];exact of_decide_eq_false hlv
     have hd:decide (cf xv yv<0)=false:=decide_eq_false hv
     clear hxv hyv hiN hjN
     go_wp2_with fail
     go_quiet_grown (first|(go_at_fn g;refine Calls.grown_of (hcc _ _)))
     have S2:Aside (SW enc w0 blk off d (grow (wr.drewN nq) osq)):=S1.out.grown nq osq
     clear la lb hcc S1
     generalize grow (wr.drewN nq) osq=w2 at S2 ⊢
     clear nq osq
     clear eai eaj pai paj bai baj rai raj
     go_wp2
     go_roundg (j - (c+1))
     case measure=>omega
     case rel=>exact ⟨c+1,j,by go_num,rfl,by omega,by omega,hj,by omega,S2,⟨Or.inr (by rw [Nat.add_sub_cancel,ET.out];exact hlv),HE.out.2⟩⟩
  · obtain rfl:j=i:=by omega
    go_wp2
    go_loopg [17] (m - a) (fun g1 vk wr=>∃ (k:Nat) (dk:Array α),vk=.int .i64 k/\j<=k/\k<=m/\k - j<=g1/\dk.size=d.size/\Aside (SW enc w0 blk off dk wr)/\Hid (Rot k m (m+1) d dk/\PermIn a (m+1) d dk))
    case atStart=>exact ⟨m,d,rfl,by omega,Nat.le_refl _,by omega,rfl,S1,⟨Rot.idle (Or.inl rfl),permIn_refl d a (m+1)⟩⟩
    case round =>
     clear S1
     obtain ⟨k,dk,rfl,hjk,hkm,hg2,hsk,S1,HR⟩:=hrel
     by_cases hlt2:j<k
     · obtain ⟨kp,rfl⟩:∃ q,k=q+1:=⟨k - 1,by omega⟩
       have zk:((kp+1:Nat):Int)=(kp:Int)+1:=by omega
       have hltz:(kp:Int)+1 > (j:Int):=by omega
       obtain ⟨iN,hiN⟩:∃ q,q=kp+1:=⟨_,rfl⟩
       obtain ⟨jN,hjN⟩:∃ q,q=kp:=⟨_,rfl⟩
       have eai:((kp:Int)+1).toNat=iN:=by omega
       have pai:(0:Int)<=(kp:Int)+1:=by omega
       have bai:(kp:Int)+1<(d.size:Int):=by omega
       have rai:IntKind.i64.wrap ((kp:Int)+1)=(kp:Int)+1:=by rw [IntKind.wrap_i64];omega
       have eaj:((kp:Int)).toNat=jN:=by omega
       have paj:(0:Int)<=(kp:Int):=by omega
       have baj:(kp:Int)<(d.size:Int):=by omega
       have raj:IntKind.i64.wrap ((kp:Int))=(kp:Int):=by rw [IntKind.wrap_i64];omega
       obtain ⟨xv,hxv⟩:∃ x,x=dk[kp+1]! := ⟨_,rfl⟩
       obtain ⟨yv,hyv⟩:∃ x,x=dk[kp]! := ⟨_,rfl⟩
       have S3:Aside (SW enc w0 blk off (swp dk (kp+1) (kp)) ((wr.setCell ⟨blk,off+iN,none⟩ (enc yv)).setCell ⟨blk,off+jN,none⟩ (enc xv)).drew):=by rw [hiN,hjN,hxv,hyv];exact S1.out.swapped R (kp+1) (kp) (by omega) (by omega)
       have ca:=S1.out.c1 R (by omega) (kp+1) (by omega)
       have cb':=S1.out.c1 R (by omega) (kp) (by omega)
       have fa:=S1.out.f1 R (by omega) (kp+1) (by omega)
       have fb:=S1.out.f1 R (by omega) (kp) (by omega)
       obtain ⟨uu,cu⟩:=S1.out.c2 R (by omega) (kp+1) (kp) (by omega) (by omega) (enc yv)
       rw [<- hiN,<- hjN] at cu
       rw [<- hxv,<- hiN] at ca
       rw [<- hyv,<- hjN] at cb'
       rw [<- hiN] at fa
       rw [<- hjN] at fb
       clear S1 hxv hyv hiN hjN
       go_wp2_with fail
       go_big_region_o
       clear ca cb' cu fa fb
       generalize ((wr.setCell ⟨blk,off+iN,none⟩ (enc yv)).setCell ⟨blk,off+jN,none⟩ (enc xv)).drew=w3 at S3 ⊢
       clear eai eaj pai paj bai baj rai raj
       go_wp2
       go_roundg (kp - j)
       case measure=>omega
       case rel=>exact ⟨kp,swp dk (kp+1) kp,by first|rfl|go_num|(congr 1;omega),by omega,by omega,by omega,by rw [size_swp];exact hsk,S3,⟨HR.out.1.bubble_down (by omega) (by omega),permIn_trans _ _ _ _ _ HR.out.2 (swp_permIn dk a (m+1) (kp+1) kp (by omega) (by omega) (by omega) (by omega) (by omega))⟩⟩
     · obtain rfl:k=j:=by omega
       have hltz:¬ (k:Int) > (k:Int):=by omega
       go_wp2
       refine bodyPost_ret (v:=.tuple #[]) (results_none rfl _ _ _) rfl ?_
       exact ⟨rfl,dk,S1.out,HR.out.2,single_right (ltT_swo hS) (by omega) (by omega) HS.out HE.out.1 HE.out.2 HR.out.1⟩
end
section
open Go.Shelf Go.RowKit Go.Lib Go.Sort
variable {α:Type} [Inhabited α]
theorem sym_s (enc:α->Value) (cf:α->α->Int) (g:Nat) (cb:Array Value) (blk off cap:Nat) (w0:World)
 (eg:∀ args w,(callFunc g args).run Tryz.prog w=.ok (.enter g args) w) (tag:α->Nat) (hS:SWO (ltOf cf)) (d0:Array α) (hcmp:CmpLays1 Tryz.prog g cb enc cf blk off d0.size w0) (R:Row1 enc w0 blk off d0):∀ (N a m b:Nat) (d:Array α) (w:World),b - a<=N->d0.size=d.size->SW enc w0 blk off d w->a<m->m<b->b<=d.size->d.size<4611686018427387904 ->
 SortedIn (ltT (ltOf cf) tag) a m d->SortedIn (ltT (ltOf cf) tag) m b d->Cross tag a m b d ->
 Calls Tryz.prog 149 #[.slice (some ⟨blk,off,none⟩) d.size cap,.int .i64 a,.int .i64 m,.int .i64 b,.func (.func g) #[] cb] w fun e w'=>e=.returned (.tuple #[])/\∃ d',SW enc w0 blk off d' w'/\PermIn a b d d'/\SortedIn (ltT (ltOf cf) tag) a b d':=by
 intro N
 induction N with
 | zero=>intro a m b d w h1 _ _ h2 h3;omega
 | succ N ih =>
 intro a m b d w hN hs S h1 h2 hb hsz s1 s2 hx
 by_cases hl:m=a+1
 · subst hl
   have:=symLeft_s enc cf g cb blk off cap w0 eg tag hS a b d0 d w hcmp R hs S h2 hb hsz s2 hx
   rw [show ((a+1:Nat):Int)=(a:Int)+1 by omega]
   exact this
 by_cases hr:b=m+1
 · subst hr
   have:=symRight_s enc cf g cb blk off cap w0 eg tag hS a m d0 d w hcmp R hs S (by omega) hb hsz s1 hx
   rw [show ((m+1:Nat):Int)=(m:Int)+1 by omega]
   exact this
 have IH:=hid ih
 clear ih
 have hcl0:=R.hO.cells
 simp only [Value.cells] at hcl0
 have mixed:Tryz.prog.follows .mixedOrders=true:=by kernel_rfl
 have HC:Aside _:=hcmp
 have S0:Aside (SW enc w0 blk off d w):=S
 have HX:=hid hx
 have H1:=hid s1
 have H2:=hid s2
 clear S hcmp hx s1 s2
 have q0:((m:Int) - (a:Int) == 1)=false:=by simp;omega
 have q1:((b:Int) - (m:Int) == 1)=false:=by simp;omega
 obtain ⟨mid,hmid⟩:∃ mid:Nat,mid=(a+b) / 2:=⟨_,rfl⟩
 have zmid:((a:Int)+(b:Int)) / 2=(mid:Int):=by omega
 have hm1:a<mid:=by omega
 have hm2:mid<b:=by omega
 have HM:=hid hmid
 have hm3:mid+m<=2 * d.size:=by omega
 obtain ⟨p,hp⟩:∃ p:Nat,p+1=mid+m:=⟨mid+m - 1,by omega⟩
 have zp:(mid:Int)+(m:Int) - 1=(p:Int):=by omega
 have HP:=hid hp
 clear hmid
 go_enter Tryz.func149,Tryz.ntmps149
 go_upto_if 140 with (fail)
 go_cut [20,21] from 138 to 146 (fun v20 v21 wx=>∃ s0 r0:Nat,v20=.int .i64 s0/\v21=.int .i64 r0/\Aside (SW enc w0 blk off d wx)/\Hid ((mid<m/\s0=mid+m - b/\r0=mid) \/ (m<=mid/\s0=a/\r0=m)))
 case first =>
  by_cases hmm:mid<m
  · have hz:(m:Int) > (mid:Int):=by omega
    obtain ⟨s0,hs0⟩:∃ s0:Nat,s0=mid+m - b:=⟨_,rfl⟩
    have zs:(mid:Int)+(m:Int) - (b:Int)=(s0:Int):=by omega
    have HS0:=hid hs0
    clear hs0
    go_wp2
    go_meet
    exact ⟨s0,mid,rfl,rfl,S0,Or.inl ⟨hmm,HS0.out,rfl⟩⟩
  · have hz:¬ (m:Int) > (mid:Int):=by omega
    go_wp2
    go_meet
    exact ⟨a,m,rfl,rfl,S0,Or.inr ⟨by omega,rfl,rfl⟩⟩
 case rest =>
  clear S0
  obtain ⟨s0,r0,rfl,rfl,SA,HB⟩:=hcut
  have hb1:a<=s0:=by have:=HB.out;have:=HM.out;omega
  have hb2:r0<=m:=by have:=HB.out;omega
  have hb3:r0<=mid:=by have:=HB.out;omega
  have hb4:s0<=r0:=by have:=HB.out;have:=HM.out;omega
  have hb5:p<s0+b:=by have:=HB.out;have:=HM.out;omega
  go_wp2
  go_loopg [20,21] (b - a) (fun g1 vi vj wr=>∃ (i j:Nat),vi=.int .i64 i/\vj=.int .i64 j/\s0<=i/\i<=j/\j<=r0/\j - i<=g1/\Aside (SW enc w0 blk off d wr)/\Hid (Search (ltT (ltOf cf) tag) s0 r0 p i j d))
  case atStart=>exact ⟨s0,r0,rfl,rfl,Nat.le_refl _,hb4,Nat.le_refl _,by omega,SA,Search.start hb4⟩
  case round =>
   clear SA
   obtain ⟨i,j,rfl,rfl,hi,hij,hj,hg1,S1,HE⟩:=hrel
   by_cases hlt:i<j
   · have hltz:(i:Int)<(j:Int):=by omega
     obtain ⟨c,hc⟩:∃ c:Nat,c=(i+j) / 2:=⟨_,rfl⟩
     have hci:i<=c:=by omega
     have hcj:c<j:=by omega
     have hpc1:c<=p:=by omega
     have hpc2:m<=p - c:=by omega
     have hpc3:p - c<b:=by omega
     have zc:((i:Int)+(j:Int)) / 2=(c:Int):=by omega
     have eT:=ltT_right (lt:=ltOf cf) (tag:=tag) (HX.out c (p - c) (by omega) (by omega) hpc2 hpc3)
     have ET:=hid eT
     clear eT hc
     cases hlv:ltOf cf d[p - c]! d[c]! with
     | true =>
      obtain ⟨iN,hiN⟩:∃ q,q=p - c:=⟨_,rfl⟩
      obtain ⟨jN,hjN⟩:∃ q,q=c:=⟨_,rfl⟩
      have eai:((p:Int) - (c:Int)).toNat=iN:=by omega
      have pai:(0:Int)<=(p:Int) - (c:Int):=by omega
      have bai:(p:Int) - (c:Int)<(d.size:Int):=by omega
      have rai:IntKind.i64.wrap ((p:Int) - (c:Int))=(p:Int) - (c:Int):=by rw [IntKind.wrap_i64];omega
      have eaj:((c:Int)).toNat=jN:=by omega
      have paj:(0:Int)<=(c:Int):=by omega
      have baj:(c:Int)<(d.size:Int):=by omega
      have raj:IntKind.i64.wrap ((c:Int))=(c:Int):=by rw [IntKind.wrap_i64];omega
      obtain ⟨xv,hxv⟩:∃ x,x=d[p - c]! := ⟨_,rfl⟩
      obtain ⟨yv,hyv⟩:∃ x,x=d[c]! := ⟨_,rfl⟩
      have la:=S1.out.cl R (by omega) (p - c) (by omega)
      have lb:=S1.out.cl R (by omega) (c) (by omega)
      rw [<- hxv,<- hiN] at la
      rw [<- hyv,<- hjN] at lb
      have hcc:=S1.out.cmp HC.out (by omega) xv yv
      have hv:cf xv yv<0:=by rw [hxv,hyv];exact of_decide_eq_true hlv
      have hd:decide (cf xv yv<0)=true:=decide_eq_true hv
      clear hxv hyv hiN hjN
      go_wp2_with fail
      go_quiet_grown (first|(go_at_fn g;refine Calls.grown_of (hcc _ _)))
      have S2:Aside (SW enc w0 blk off d (grow (wr.drewN nq) osq)):=S1.out.grown nq osq
      clear la lb hcc S1
      generalize grow (wr.drewN nq) osq=w2 at S2 ⊢
      clear nq osq
      clear eai eaj pai paj bai baj rai raj
      go_wp2
      go_roundg (c - i)
      case measure=>omega
      case rel=>exact ⟨i,c,rfl,rfl,hi,by omega,by omega,by omega,S2,HE.out.down hci hcj (by rw [ET.out];exact hlv)⟩
     | false =>
      obtain ⟨iN,hiN⟩:∃ q,q=p - c:=⟨_,rfl⟩
      obtain ⟨jN,hjN⟩:∃ q,q=c:=⟨_,rfl⟩
      have eai:((p:Int) - (c:Int)).toNat=iN:=by omega
      have pai:(0:Int)<=(p:Int) - (c:Int):=by omega
      have bai:(p:Int) - (c:Int)<(d.size:Int):=by omega
      have rai:IntKind.i64.wrap ((p:Int) - (c:Int))=(p:Int) - (c:Int):=by rw [IntKind.wrap_i64];omega
      have eaj:((c:Int)).toNat=jN:=by omega
      have paj:(0:Int)<=(c:Int):=by omega
      have baj:(c:Int)<(d.size:Int):=by omega
      have raj:IntKind.i64.wrap ((c:Int))=(c:Int):=by rw [IntKind.wrap_i64];omega
      obtain ⟨xv,hxv⟩:∃ x,x=d[p - c]! := ⟨_,rfl⟩
      obtain ⟨yv,hyv⟩:∃ x,x=d[c]! := ⟨_,rfl⟩
      have la:=S1.out.cl R (by omega) (p - c) (by omega)
      have lb:=S1.out.cl R (by omega) (c) (by omega)
      rw [<- hxv,<- hiN] at la
      rw [<- hyv,<- hjN] at lb
      have hcc:=S1.out.cmp HC.out (by omega) xv yv
      have hv:¬ cf xv yv<0:=by rw [hxv,hyv];exact of_decide_eq_false hlv
      have hd:decide (cf xv yv<0)=false:=decide_eq_false hv
      clear hxv hyv hiN hjN
      go_wp2_with fail
      go_quiet_grown (first|(go_at_fn g;refine Calls.grown_of (hcc _ _)))
      have S2:Aside (SW enc w0 blk off d (grow (wr.drewN nq) osq)):=S1.out.grown nq osq
      clear la lb hcc S1
      generalize grow (wr.drewN nq) osq=w2 at S2 ⊢
      clear nq osq
      clear eai eaj pai paj bai baj rai raj
      go_wp2
      go_roundg (j - (c+1))
      case measure=>omega
      case rel=>exact ⟨c+1,j,by go_num,rfl,by omega,by omega,hj,by omega,S2,HE.out.up hci hcj (by rw [ET.out];exact hlv)⟩
   · obtain rfl:j=i:=by omega
     obtain ⟨e,he⟩:∃ e:Nat,e+j=mid+m:=⟨mid+m - j,by omega⟩
     have ze:(mid:Int)+(m:Int) - (j:Int)=(e:Int):=by omega
     have hcut:Cut (ltT (ltOf cf) tag) a j m e b d:=by
      have h:=HE.out
      rw [show p=mid+m - 1 by omega] at h
      have:=h.cut HM.out h1 h2 HB.out
      rwa [show mid+m - j=e by omega] at this
     have ho1:=hcut.o1
     have ho2:=hcut.o2
     have ho3:=hcut.o3
     have ho4:=hcut.o4
     have HCUT:=hid hcut
     clear hcut
     go_upto_if 185 with (fail)
     all_goals
      go_cut [] from 178 to 191 (fun wx=>∃ d1:Array α,Aside (SW enc w0 blk off d1 wx)/\Hid (Rot j m e d d1/\PermIn a b d d1))
      case first =>
       rcases (show (j<m/\m<e) \/ ¬ j<m \/ (j<m/\¬ m<e) by omega) with ⟨hr1,hr2⟩|h|⟨h,h'⟩
       · first
         | (exfalso;omega)
         | (have z1:(j:Int)<(m:Int):=by omega
            have z2:(m:Int)<(e:Int):=by omega
            have con:=rotate_s enc cf g cb blk off cap w0 eg j m e d0 d wr R hs S1.out hr1 hr2 (by omega) hsz
            clear S1
            go_wp2_with (go_at_call 161;refine con.mono ?_;rintro e w2 ⟨rfl,d2,S2,E2,P2⟩;have SX:Aside (SW enc w0 blk off d2 w2):=S2;have EX:=hid E2;have PX:=hid P2;clear S2 E2 P2)
            go_meet
            exact ⟨d2,SX,EX.out,permIn_mono' ho1 ho4 hb (by omega) PX.out⟩)
       · first
         | (exfalso;omega)
         | (have z1:¬ (j:Int)<(m:Int):=by omega
            go_wp2
            go_meet
            exact ⟨d,S1,Rot.idle (by omega),permIn_refl d a b⟩)
       · first
         | (exfalso;omega)
         | (have z1:(j:Int)<(m:Int):=by omega
            have z2:¬ (m:Int)<(e:Int):=by omega
            go_wp2
            go_meet
            exact ⟨d,S1,Rot.idle (by omega),permIn_refl d a b⟩)
      case rest =>
       clear S1
       obtain ⟨d1,S1,HR⟩:=hcut
       have hsz1:d1.size=d.size:=HR.out.2.1
       have HPA:=hid (HCUT.out.parts (ltT_swo hS) (mid:=mid) (by omega) H1.out H2.out HX.out HR.out.1)
       go_upto_if 199 with (fail)
       all_goals
        go_cut [] from 192 to 205 (fun wx=>∃ d2:Array α,Aside (SW enc w0 blk off d2 wx)/\Hid (PermIn a mid d1 d2/\SortedIn (ltT (ltOf cf) tag) a mid d2))
        case first =>
         rcases (show (a<j/\j<mid) \/ ¬ a<j \/ (a<j/\¬ j<mid) by omega) with ⟨hr1,hr2⟩|h|⟨h,h'⟩
         · first
           | (exfalso;omega)
           | (have z1:(a:Int)<(j:Int):=by omega
              have z2:(j:Int)<(mid:Int):=by omega
              have con:=IH.out a j mid d1 wc (by omega) (by omega) S1.out hr1 hr2 (by omega) (by omega) HPA.out.s1 HPA.out.s2 HPA.out.c1
              rw [hsz1] at con
              clear S1
              go_wp2_with (go_at_call 149;refine con.mono ?_;rintro e w2 ⟨rfl,d2,S2,P2,E2⟩;have SX:Aside (SW enc w0 blk off d2 w2):=S2;have EX:=hid E2;have PX:=hid P2;clear S2 E2 P2)
              go_meet
              exact ⟨d2,SX,PX.out,EX.out⟩)
         · first
           | (exfalso;omega)
           | (have z1:¬ (a:Int)<(j:Int):=by omega
              go_wp2
              go_meet
              exact ⟨d1,S1,permIn_refl d1 a mid,sorted_idle HPA.out.s1 HPA.out.s2 (by omega)⟩)
         · first
           | (exfalso;omega)
           | (have z1:(a:Int)<(j:Int):=by omega
              have z2:¬ (j:Int)<(mid:Int):=by omega
              go_wp2
              go_meet
              exact ⟨d1,S1,permIn_refl d1 a mid,sorted_idle HPA.out.s1 HPA.out.s2 (by omega)⟩)
        case rest =>
         clear S1
         obtain ⟨d2,S1,HQ⟩:=hcut
         have hsz2:d2.size=d.size:=HQ.out.1.1.trans hsz1
         obtain ⟨f1,f2,f3,f4,f5⟩:=HPA.out.first (by omega) HQ.out.1 HQ.out.2
         have F1:=hid f1
         have F2:=hid f2
         have F3:=hid f3
         have F4:=hid f4
         have F5:=hid f5
         clear f1 f2 f3 f4 f5
         have PP:=hid (permIn_trans _ _ _ _ _ HR.out.2 (permIn_mono' (Nat.le_refl a) (by omega) (by omega) (by omega) HQ.out.1))
         have hro3:=HPA.out.o3
         rcases (show (mid<e/\e<b) \/ ¬ mid<e \/ (mid<e/\¬ e<b) by omega) with ⟨hr1,hr2⟩|h|⟨h,h'⟩
         · have z1:(mid:Int)<(e:Int):=by omega
           have z2:(e:Int)<(b:Int):=by omega
           have con:=IH.out mid e b d2 wc (by omega) (by omega) S1.out hr1 hr2 (by omega) (by omega) F2.out F3.out F4.out
           rw [hsz2] at con
           clear S1
           go_wp2_with (go_at_call 149;refine con.mono ?_;rintro e w2 ⟨rfl,d3,S2,P2,E2⟩;have SX:Aside (SW enc w0 blk off d3 w2):=S2;have EX:=hid E2;have PX:=hid P2;clear S2 E2 P2)
           go_end0
           exact ⟨rfl,d3,SX.out,permIn_trans _ _ _ _ _ PP.out (permIn_mono' (by omega) (Nat.le_refl b) (by omega) (by omega) PX.out),join_sorted (by omega) (by omega) (by omega) F1.out F5.out PX.out EX.out⟩
         · have z1:¬ (mid:Int)<(e:Int):=by omega
           go_wp2
           go_end0
           exact ⟨rfl,d2,S1.out,PP.out,join_sorted (by omega) (by omega) (by omega) F1.out F5.out (permIn_refl d2 mid b) (sorted_idle F2.out F3.out (by omega))⟩
         · have z1:(mid:Int)<(e:Int):=by omega
           have z2:¬ (e:Int)<(b:Int):=by omega
           go_wp2
           go_end0
           exact ⟨rfl,d2,S1.out,PP.out,join_sorted (by omega) (by omega) (by omega) F1.out F5.out (permIn_refl d2 mid b) (sorted_idle F2.out F3.out (by omega))⟩
end
section
open Go.Shelf Go.RowKit Go.Lib Go.Sort
variable {α:Type} [Inhabited α]
theorem ins_s (enc:α->Value) (cf:α->α->Int) (g:Nat) (cb:Array Value) (blk off cap:Nat) (w0:World)
 (eg:∀ args w,(callFunc g args).run Tryz.prog w=.ok (.enter g args) w) (tag:α->Nat) (hS:SWO (ltOf cf)) (a b:Nat) (d0 d:Array α) (w:World) (hcmp:CmpLays1 Tryz.prog g cb enc cf blk off d0.size w0) (R:Row1 enc w0 blk off d0) (hs:d0.size=d.size) (S:SW enc w0 blk off d w) (h2:a<=b) (hb:b<=d.size) (hsz:d.size<1152921504606846976)
 (ht:∀ p q,a<=p->p<q->q<b->tag d[p]!<tag d[q]!) :
 Calls Tryz.prog 148 #[.slice (some ⟨blk,off,none⟩) d.size cap,.int .i64 a,.int .i64 b,.func (.func g) #[] cb] w fun e w'=>e=.returned (.tuple #[])/\∃ d',SW enc w0 blk off d' w'/\PermIn a b d d'/\SortedIn (ltT (ltOf cf) tag) a b d':=by
 have hcl0:=R.hO.cells
 simp only [Value.cells] at hcl0
 have hst:=R.hO.store Tryz.prog
 have mixed:Tryz.prog.follows .mixedOrders=true:=by kernel_rfl
 have HC:Aside _:=hcmp
 have S0:Aside (SW enc w0 blk off d w):=S
 have HT:=hid ht
 clear S hcmp ht
 go_enter Tryz.func148,Tryz.ntmps148
 go_wp2
 go_loopg [8] (b - a) (fun g1 vi wr=>∃ (i:Nat) (dk:Array α),vi=.int .i64 i/\a<i/\i<=b+1/\b+1 - i<=g1+1/\dk.size=d.size/\Aside (SW enc w0 blk off dk wr)/\Hid (PermIn a b d dk/\SortedIn (ltT (ltOf cf) tag) a (min i b) dk/\∀ p q,a<=p->p<q->i<=q->q<b->tag dk[p]!<tag dk[q]!))
 case atStart=>exact ⟨a+1,d,by go_num,by omega,by omega,by omega,rfl,S0,⟨permIn_refl d a b,fun i j h1 h2 h3=>by omega,fun p q h1 h2 _ h4=>HT.out p q h1 h2 h4⟩⟩
 case round =>
  clear S0
  obtain ⟨i,dk,rfl,hai,hib,hg1,hsk,S1,HO⟩:=hrel
  by_cases hlt:i<b
  · have hltz:(i:Int)<(b:Int):=by omega
    go_wp2
    go_loopg [9] i (fun g2 vj wr2=>∃ (j:Nat) (dj:Array α),vj=.int .i64 j/\a<=j/\j<=i/\j<=g2/\dj.size=d.size/\Aside (SW enc w0 blk off dj wr2)/\Hid (Ins (ltT (ltOf cf) tag) a j i dj/\PermIn a (i+1) dk dj/\∀ p,a<=p->p<j->tag dj[p]!<tag dj[j]!))
    case atStart=>exact ⟨i,dk,rfl,by omega,Nat.le_refl _,Nat.le_refl _,hsk,S1,⟨⟨fun p q h1 h2 h3 _ h5=>HO.out.2.1 p q h1 h2 (by omega),fun q h1 h2=>by omega⟩,permIn_refl dk a (i+1),fun p h1 h2=>HO.out.2.2 p i h1 h2 (Nat.le_refl _) hlt⟩⟩
    case round =>
     clear S1
     obtain ⟨j,dj,rfl,haj,hji,hg2,hsj,SJ,HI⟩:=hrel
     have out:(j<=a \/ ltT (ltOf cf) tag dj[j]! dj[j - 1]! = false)->Hid (PermIn a b d dj/\SortedIn (ltT (ltOf cf) tag) a (min (i+1) b) dj/\∀ p q,a<=p->p<q->i+1<=q->q<b->tag dj[p]!<tag dj[q]!):=fun hs=>by
      have hp:=HI.out.2.1
      refine ⟨permIn_trans _ _ _ _ _ HO.out.1 (permIn_mono' (Nat.le_refl a) (by omega) (by omega) (by omega) hp),?_,fun p q h1 h2 h3 h4=>?_⟩
      · rw [Nat.min_eq_left (by omega)]
        exact HI.out.1.stop (ltT_swo hS) hs
      · rw [hp.2.1 q (Or.inr (by omega))]
        by_cases hpi:p<i+1
        · exact permIn_all dk dj a (i+1) (fun x=>tag x<tag dk[q]!) (by omega) hp (fun k hk hk2=>HO.out.2.2 k q hk (by omega) (by omega) h4) p h1 hpi
        · rw [hp.2.1 p (Or.inr (by omega))]
          exact HO.out.2.2 p q h1 h2 (by omega) h4
     have OUT:Aside _:=out
     clear out
     by_cases hja:a<j
     · obtain ⟨jp,rfl⟩:∃ q,j=q+1:=⟨j - 1,by omega⟩
       have zjp:((jp+1:Nat):Int)=(jp:Int)+1:=by omega
       have hjad:decide ((jp:Int)+1 > (a:Int))=true:=decide_eq_true (by omega)
       have hjaz':(a:Int)<(jp:Int)+1:=by omega
       have eT:=ltT_right (lt:=ltOf cf) (tag:=tag) (HI.out.2.2 jp (by omega) (Nat.lt_succ_self _))
       have ET:=hid eT
       clear eT
       cases hlv:ltOf cf dj[jp+1]! dj[jp]! with
       | true =>
        obtain ⟨iN,hiN⟩:∃ q,q=jp+1:=⟨_,rfl⟩
        obtain ⟨jN,hjN⟩:∃ q,q=jp:=⟨_,rfl⟩
        have eai:((jp:Int)+1).toNat=iN:=by omega
        have pai:(0:Int)<=(jp:Int)+1:=by omega
        have bai:(jp:Int)+1<(d.size:Int):=by omega
        have rai:IntKind.i64.wrap ((jp:Int)+1)=(jp:Int)+1:=by rw [IntKind.wrap_i64];omega
        have eaj:((jp:Int)).toNat=jN:=by omega
        have paj:(0:Int)<=(jp:Int):=by omega
        have baj:(jp:Int)<(d.size:Int):=by omega
        have raj:IntKind.i64.wrap ((jp:Int))=(jp:Int):=by rw [IntKind.wrap_i64];omega
        obtain ⟨xv,hxv⟩:∃ x,x=dj[jp+1]! := ⟨_,rfl⟩
        obtain ⟨yv,hyv⟩:∃ x,x=dj[jp]! := ⟨_,rfl⟩
        have la:=SJ.out.cl R (by omega) (jp+1) (by omega)
        have lb:=SJ.out.cl R (by omega) (jp) (by omega)
        rw [<- hxv,<- hiN] at la
        rw [<- hyv,<- hjN] at lb
        have hcc:=SJ.out.cmp HC.out (by omega) xv yv
        have hv:cf xv yv<0:=by rw [hxv,hyv];exact of_decide_eq_true hlv
        have hd:decide (cf xv yv<0)=true:=decide_eq_true hv
        clear hxv hyv hiN hjN
        go_wp2_with fail
        go_quiet_grown (first|(go_at_fn g;refine Calls.grown_of (hcc _ _)))
        have S2:Aside (SW enc w0 blk off dj (grow (wr.drewN nq) osq)):=SJ.out.grown nq osq
        clear la lb hcc SJ
        generalize grow (wr.drewN nq) osq=w2 at S2 ⊢
        clear nq osq
        clear eai eaj pai paj bai baj rai raj
        go_wp2_with fail
        obtain ⟨iN,hiN⟩:∃ q,q=jp+1:=⟨_,rfl⟩
        obtain ⟨jN,hjN⟩:∃ q,q=jp:=⟨_,rfl⟩
        have eai:((jp:Int)+1).toNat=iN:=by omega
        have pai:(0:Int)<=(jp:Int)+1:=by omega
        have bai:(jp:Int)+1<(d.size:Int):=by omega
        have rai:IntKind.i64.wrap ((jp:Int)+1)=(jp:Int)+1:=by rw [IntKind.wrap_i64];omega
        have eaj:((jp:Int)).toNat=jN:=by omega
        have paj:(0:Int)<=(jp:Int):=by omega
        have baj:(jp:Int)<(d.size:Int):=by omega
        have raj:IntKind.i64.wrap ((jp:Int))=(jp:Int):=by rw [IntKind.wrap_i64];omega
        obtain ⟨xv,hxv⟩:∃ x,x=dj[jp+1]! := ⟨_,rfl⟩
        obtain ⟨yv,hyv⟩:∃ x,x=dj[jp]! := ⟨_,rfl⟩
        have S3:Aside (SW enc w0 blk off (swp dj (jp+1) (jp)) ((w2.setCell ⟨blk,off+iN,none⟩ (enc yv)).setCell ⟨blk,off+jN,none⟩ (enc xv)).drew):=by rw [hiN,hjN,hxv,hyv];exact S2.out.swapped R (jp+1) (jp) (by omega) (by omega)
        have ca:=S2.out.c1 R (by omega) (jp+1) (by omega)
        have cb':=S2.out.c1 R (by omega) (jp) (by omega)
        have fa:=S2.out.f1 R (by omega) (jp+1) (by omega)
        have fb:=S2.out.f1 R (by omega) (jp) (by omega)
        obtain ⟨uu,cu⟩:=S2.out.c2 R (by omega) (jp+1) (jp) (by omega) (by omega) (enc yv)
        rw [<- hiN,<- hjN] at cu
        rw [<- hxv,<- hiN] at ca
        rw [<- hyv,<- hjN] at cb'
        rw [<- hiN] at fa
        rw [<- hjN] at fb
        clear S2 hxv hyv hiN hjN
        go_wp2_with fail
        go_big_region_o
        clear ca cb' cu fa fb
        generalize ((w2.setCell ⟨blk,off+iN,none⟩ (enc yv)).setCell ⟨blk,off+jN,none⟩ (enc xv)).drew=w3 at S3 ⊢
        clear eai eaj pai paj bai baj rai raj
        go_wp2
        go_roundg jp
        case measure=>omega
        case rel=>exact ⟨jp,swp dj (jp+1) jp,by first|rfl|go_num|(congr 1;omega),by omega,by omega,Nat.le_refl _,by rw [size_swp];exact hsj,S3,⟨HI.out.1.step (by rw [ET.out];exact hlv) (by omega) (by omega),permIn_trans _ _ _ _ _ HI.out.2.1 (swp_permIn dj a (i+1) (jp+1) jp (by omega) (by omega) (by omega) (by omega) (by omega)),fun p h1 h2=>by
         have g:=swp_get dj (i:=jp+1) (j:=jp) (by omega) (by omega)
         rw [g,g,if_neg (by omega),if_neg (by omega),if_pos rfl]
         exact HI.out.2.2 p h1 (by omega)⟩⟩
       | false =>
        obtain ⟨iN,hiN⟩:∃ q,q=jp+1:=⟨_,rfl⟩
        obtain ⟨jN,hjN⟩:∃ q,q=jp:=⟨_,rfl⟩
        have eai:((jp:Int)+1).toNat=iN:=by omega
        have pai:(0:Int)<=(jp:Int)+1:=by omega
        have bai:(jp:Int)+1<(d.size:Int):=by omega
        have rai:IntKind.i64.wrap ((jp:Int)+1)=(jp:Int)+1:=by rw [IntKind.wrap_i64];omega
        have eaj:((jp:Int)).toNat=jN:=by omega
        have paj:(0:Int)<=(jp:Int):=by omega
        have baj:(jp:Int)<(d.size:Int):=by omega
        have raj:IntKind.i64.wrap ((jp:Int))=(jp:Int):=by rw [IntKind.wrap_i64];omega
        obtain ⟨xv,hxv⟩:∃ x,x=dj[jp+1]! := ⟨_,rfl⟩
        obtain ⟨yv,hyv⟩:∃ x,x=dj[jp]! := ⟨_,rfl⟩
        have la:=SJ.out.cl R (by omega) (jp+1) (by omega)
        have lb:=SJ.out.cl R (by omega) (jp) (by omega)
        rw [<- hxv,<- hiN] at la
        rw [<- hyv,<- hjN] at lb
        have hcc:=SJ.out.cmp HC.out (by omega) xv yv
        have hv:¬ cf xv yv<0:=by rw [hxv,hyv];exact of_decide_eq_false hlv
        have hd:decide (cf xv yv<0)=false:=decide_eq_false hv
        clear hxv hyv hiN hjN
        go_wp2_with fail
        go_quiet_grown (first|(go_at_fn g;refine Calls.grown_of (hcc _ _)))
        have S2:Aside (SW enc w0 blk off dj (grow (wr.drewN nq) osq)):=SJ.out.grown nq osq
        clear la lb hcc SJ
        generalize grow (wr.drewN nq) osq=w2 at S2 ⊢
        clear nq osq
        clear eai eaj pai paj bai baj rai raj
        go_wp2
        go_roundg (b - (i+1))
        case measure=>omega
        case rel=>exact ⟨i+1,dj,by go_num,by omega,by omega,by omega,hsj,S2,OUT.out (Or.inr (by rw [Nat.add_sub_cancel,ET.out];exact hlv))⟩
     · have hjaz:decide ((j:Int) > (a:Int))=false:=decide_eq_false (by omega)
       have hjaz':¬ (a:Int)<(j:Int):=by omega
       go_wp2_with fail
       go_big_region_o
       have S2:Aside (SW enc w0 blk off dj wr.drew):=SJ.out.drew
       clear SJ
       generalize wr.drew=w2 at S2 ⊢
       go_wp2
       go_roundg (b - (i+1))
       case measure=>omega
       case rel=>exact ⟨i+1,dj,by go_num,by omega,by omega,by omega,hsj,S2,OUT.out (Or.inl (by omega))⟩
  · have hltz:¬ (i:Int)<(b:Int):=by omega
    go_wp2
    go_end0
    exact ⟨rfl,dk,S1.out,HO.out.1,by have:=HO.out.2.1;rwa [Nat.min_eq_right (by omega)] at this⟩
end
section
open Go.Shelf Go.RowKit Go.Lib Go.Sort
variable {α:Type} [Inhabited α]
theorem stable_s (enc:α->Value) (cf:α->α->Int) (g:Nat) (cb:Array Value) (blk off cap:Nat) (w0:World)
 (eg:∀ args w,(callFunc g args).run Tryz.prog w=.ok (.enter g args) w) (tag:α->Nat) (hS:SWO (ltOf cf)) (d0:Array α) (w:World) (hcmp:CmpLays1 Tryz.prog g cb enc cf blk off d0.size w0) (R:Row1 enc w0 blk off d0) (S:SW enc w0 blk off d0 w) (hsz:d0.size<1152921504606846976)
 (ht:∀ p q,p<q->q<d0.size->tag d0[p]!<tag d0[q]!) :
 Calls Tryz.prog 117 #[.slice (some ⟨blk,off,none⟩) d0.size cap,.int .i64 d0.size,.func (.func g) #[] cb] w fun e w'=>e=.returned (.tuple #[])/\∃ d',SW enc w0 blk off d' w'/\PermIn 0 d0.size d0 d'/\SortedIn (ltT (ltOf cf) tag) 0 d0.size d':=by
 have HC:Aside _:=hcmp
 have S0:Aside (SW enc w0 blk off d0 w):=S
 have HT:=hid ht
 obtain ⟨n,hn⟩:∃ n,n=d0.size:=⟨_,rfl⟩
 have HN:=hid hn
 rw [<- hn] at hsz ⊢
 clear S hcmp ht hn
 go_enter Tryz.func117,Tryz.ntmps117
 go_wp2
 go_loopg [7,8] n (fun g1 v7 v8 wr=>∃ (q A:Nat) (dk:Array α),v7=.int .i64 A/\v8=.int .i64 ((A:Int)+20)/\A<=n/\n - A<=g1/\Hid (A=q * 20)/\Aside (SW enc w0 blk off dk wr)/\Hid (InsI (ltT (ltOf cf) tag) tag 20 n q d0 dk))
 case atStart=>exact ⟨0,0,d0,by go_num,by go_num,by omega,by omega,rfl,S0,InsI.start HN.out (fun i j h1 h2=>HT.out i j h1 (by have:=HN.out;omega))⟩
 case round =>
  clear S0
  obtain ⟨q,A,dk,rfl,rfl,hA,hg1,HA,S1,HI⟩:=hrel
  have hsk:dk.size=n:=by rw [HI.out.perm.1,HN.out]
  have HSK:=hid hsk
  have ht2:∀ p r,A<=p->p<r->r<n->tag dk[p]!<tag dk[r]! := fun p r h1 h2 h3=>by
   rw [HI.out.rest p (by rw [<- HA.out];exact h1),HI.out.rest r (by rw [<- HA.out];omega)]
   exact HT.out p r h2 (by rw [<- HN.out];exact h3)
  by_cases hle:A+20<=n
  · have hlez:(A:Int)+20<=(n:Int):=by omega
    have con:=ins_s enc cf g cb blk off cap w0 eg tag hS A (A+20) d0 dk wr HC.out R (by rw [<- HN.out,hsk]) S1.out (by omega) (by omega) (by omega) (fun p r h1 h2 h3=>ht2 p r h1 h2 (by omega))
    rw [hsk,show ((A+20:Nat):Int)=(A:Int)+20 by omega] at con
    clear S1 hsk ht2
    go_wp2_with (go_at_call 148;refine con.mono ?_;rintro e w2 ⟨rfl,d2,S2,P2,E2⟩;have SX:Aside (SW enc w0 blk off d2 w2):=S2;have EX:=hid E2;have PX:=hid P2;clear S2 E2 P2)
    clear con
    go_roundg (n - (A+20))
    case measure=>omega
    case rel=>exact ⟨q+1,A+20,d2,by go_num,by first|rfl|go_num|(congr 1;omega),by omega,by omega,(show A+20=(q+1) * 20 by have:=HA.out;omega),SX,HI.out.step HN.out (b:=A+20) (by have:=HA.out;omega) (by rw [<- HA.out];exact PX.out) (by rw [<- HA.out];exact EX.out) (by rw [<- HA.out];exact hA)⟩
  · have hlez:¬ (A:Int)+20<=(n:Int):=by omega
    have con:=ins_s enc cf g cb blk off cap w0 eg tag hS A n d0 dk wr HC.out R (by rw [<- HN.out,hsk]) S1.out hA (by omega) (by omega) (fun p r h1 h2 h3=>ht2 p r h1 h2 h3)
    rw [hsk] at con
    clear S1 hsk ht2
    go_wp2_with (go_at_call 148;refine con.mono ?_;rintro e w2 ⟨rfl,d2,S2,P2,E2⟩;have SX:Aside (SW enc w0 blk off d2 w2):=S2;have EX:=hid E2;have PX:=hid P2;clear S2 E2 P2)
    clear con
    have HB:=hid ((HI.out.step HN.out (b:=n) (by have:=HA.out;omega) (by rw [<- HA.out];exact PX.out) (by rw [<- HA.out];exact EX.out) (by rw [<- HA.out];exact hA)).blocks (by have:=HA.out;omega))
    clear HI PX EX HSK
    go_loopg [6,7,8,9] n (fun g1 v6 v7 v8 v9 wr=>∃ (bs:Nat) (dk:Array α),v6=.int .i64 bs/\20<=bs/\n - bs<=g1/\Aside (SW enc w0 blk off dk wr)/\Hid (Blocks (ltT (ltOf cf) tag) tag bs n d0 dk))
    case atStart=>exact ⟨20,d2,by go_num,Nat.le_refl _,by omega,SX,HB⟩
    case round =>
     clear SX HB
     obtain ⟨bs,dk,rfl,hbs,hg1,S1,HB⟩:=hrel
     by_cases hlt:bs<n
     · have hltz:(bs:Int)<(n:Int):=by omega
       go_wp2
       go_loopg [7,8] n (fun g1 v7 v8 wr=>∃ (q A B:Nat) (dk:Array α),v7=.int .i64 A/\v8=.int .i64 B/\B<=A+2 * bs/\A+2 * bs<=B/\A<=n/\n - A<=g1/\Hid (A=q * (2 * bs))/\Aside (SW enc w0 blk off dk wr)/\Hid (MergeI (ltT (ltOf cf) tag) tag bs n q d0 dk))
       case atStart=>exact ⟨0,0,2 * bs,dk,by go_num,by first|rfl|go_num|(congr 1;omega),by omega,by omega,by omega,by omega,by rw [Nat.zero_mul];exact rfl,S1,HB.out.merge⟩
       case round =>
        clear S1
        obtain ⟨q,A,B,dk,rfl,rfl,hB1,hB2,hA,hg2,HA,S1,HI⟩:=hrel
        have hsk:dk.size=n:=by rw [HI.out.perm.1,HN.out]
        have hq1:(q+1) * (2 * bs)=A+2 * bs:=by rw [Nat.add_mul,Nat.one_mul,<- HA.out]
        have HQ1:=hid hq1
        clear hq1
        by_cases hle:B<=n
        · have hlez:(B:Int)<=(n:Int):=by omega
          have hpr:=HI.out.pair (b:=B) (by rw [<- HA.out];omega) (by rw [HQ1.out];omega)
          rw [<- HA.out] at hpr
          have con:=sym_s enc cf g cb blk off cap w0 eg tag hS d0 HC.out R (B - A) A (A+bs) B dk wr (Nat.le_refl _) (by rw [<- HN.out,hsk]) S1.out (by omega) (by omega) (by omega) (by omega) hpr.1 hpr.2.1 hpr.2.2
          rw [hsk,show ((A+bs:Nat):Int)=(A:Int)+(bs:Int) by omega] at con
          have HSK:=hid hsk
          have HBB:=hid (show B=A+2 * bs by omega)
          clear S1 hsk hpr
          go_wp2_with (go_at_call 149;refine con.mono ?_;rintro e w2 ⟨rfl,d2,S2,P2,E2⟩;have SX:Aside (SW enc w0 blk off d2 w2):=S2;have EX:=hid E2;have PX:=hid P2;clear S2 E2 P2)
          clear con
          go_roundg (n - B)
          case measure=>omega
          case rel=>exact ⟨q+1,B,B+2 * bs,d2,rfl,by first|rfl|go_num|(congr 1;omega),Nat.le_refl _,Nat.le_refl _,by omega,by omega,(by rw [HBB.out];exact HQ1.out.symm),SX,HI.out.step HN.out (b:=B) (by rw [HQ1.out];omega) (by rw [<- HA.out];exact PX.out) (by rw [<- HA.out];exact EX.out) (by rw [<- HA.out];exact hA)⟩
        · have hlez:¬ (B:Int)<=(n:Int):=by omega
          have HSK:=hid hsk
          clear hsk
          go_upto_if 54 with (fail)
          all_goals
           go_cut [] from 49 to 60 (fun wx=>∃ d2:Array α,Aside (SW enc w0 blk off d2 wx)/\Hid (Blocks (ltT (ltOf cf) tag) tag (2 * bs) n d0 d2))
           case first =>
            by_cases hm:A+bs<n
            · first
              | (exfalso;omega)
              | (have z1:(A:Int)+(bs:Int)<(n:Int):=by omega
                 have hpr:=HI.out.pair (b:=n) (by rw [<- HA.out];omega) (by rw [HQ1.out];omega)
                 rw [<- HA.out] at hpr
                 have con:=sym_s enc cf g cb blk off cap w0 eg tag hS d0 HC.out R (n - A) A (A+bs) n dk wr (Nat.le_refl _) (by rw [<- HN.out,HSK.out]) S1.out (by omega) (by omega) (by have:=HSK.out;omega) (by have:=HSK.out;omega) hpr.1 hpr.2.1 hpr.2.2
                 rw [HSK.out,show ((A+bs:Nat):Int)=(A:Int)+(bs:Int) by omega] at con
                 clear S1 hpr
                 go_wp2_with (go_at_call 149;refine con.mono ?_;rintro e w2 ⟨rfl,d2,S2,P2,E2⟩;have SX:Aside (SW enc w0 blk off d2 w2):=S2;have EX:=hid E2;have PX:=hid P2;clear S2 E2 P2)
                 go_meet
                 exact ⟨d2,SX,(HI.out.step HN.out (b:=n) (by rw [HQ1.out];omega) (by rw [<- HA.out];exact PX.out) (by rw [<- HA.out];exact EX.out) (by rw [<- HA.out];exact hA)).blocks (by rw [HQ1.out];omega)⟩)
            · first
              | (exfalso;omega)
              | (have z1:¬ (A:Int)+(bs:Int)<(n:Int):=by omega
                 go_wp2
                 go_meet
                 exact ⟨dk,S1,(HI.out.last HN.out (by rw [<- HA.out];exact hA) (by rw [<- HA.out];omega)).blocks (by rw [HQ1.out];omega)⟩)
           case rest =>
            clear S1
            obtain ⟨d2,S1,HB2⟩:=hcut
            go_wp2
            go_roundg (n - 2 * bs)
            case measure=>omega
            case rel=>exact ⟨2 * bs,d2,by first|rfl|go_num|(congr 1;omega),by omega,by omega,S1,HB2⟩
     · have hltz:¬ (bs:Int)<(n:Int):=by omega
       go_wp2
       go_end0
       exact ⟨rfl,dk,S1.out,by rw [HN.out] at HB ⊢;exact HB.out.perm,HB.out.done (by omega)⟩
theorem sortStable_s (enc:α->Value) (cf:α->α->Int) (g:Nat) (cb:Array Value) (blk off cap:Nat) (w0:World)
 (eg:∀ args w,(callFunc g args).run Tryz.prog w=.ok (.enter g args) w) (tag:α->Nat) (hS:SWO (ltOf cf)) (d0:Array α) (w:World) (hcmp:CmpLays1 Tryz.prog g cb enc cf blk off d0.size w0) (R:Row1 enc w0 blk off d0) (S:SW enc w0 blk off d0 w) (hsz:d0.size<1152921504606846976)
 (ht:∀ p q,p<q->q<d0.size->tag d0[p]!<tag d0[q]!) :
 Calls Tryz.prog 60 #[.slice (some ⟨blk,off,none⟩) d0.size cap,.func (.func g) #[] cb] w fun e w'=>e=.returned (.tuple #[])/\∃ d',SW enc w0 blk off d' w'/\PermIn 0 d0.size d0 d'/\SortedIn (ltT (ltOf cf) tag) 0 d0.size d':=by
 have con:=stable_s enc cf g cb blk off cap w0 eg tag hS d0 w hcmp R S hsz ht
 clear hcmp S ht
 go_enter Tryz.func60,Tryz.ntmps60
 go_wp2_with (go_at_call 117;refine con.mono ?_;rintro e w2 ⟨rfl,d2,S2,P2,E2⟩;have SX:Aside (SW enc w0 blk off d2 w2):=S2;have EX:=hid E2;have PX:=hid P2;clear S2 E2 P2)
 go_end0
 exact ⟨rfl,d2,SX.out,PX.out,EX.out⟩
end
end Go.Proofs.YtgemihkcihigpaaGreatDoor
