/- slices.SortStableFunc's family at rows: swapRange and rotate. -/
import Derived.Test.YtgemihkcihigpaaGreatDoorProg
import Derived.Shelf.SlSortCmp.Insertion1
import Derived.Lib.Hide
import Derived.Test.YtgemihkcihigpaaGreatDoorZD1
set_option linter.unusedVariables false
set_option linter.unusedSimpArgs false
set_option maxRecDepth 100000
set_option maxHeartbeats 64000000
namespace Go.Proofs.YtgemihkcihigpaaGreatDoor
open Go.Lib (hid)
section
open Go.Shelf Go.RowKit Go.Lib Go.Sort
variable {α:Type} [Inhabited α]
theorem swapRange_s (enc:α->Value) (cf:α->α->Int) (g:Nat) (cb:Array Value) (blk off cap:Nat) (w0:World)
 (eg:∀ args w,(callFunc g args).run Tryz.prog w=.ok (.enter g args) w) (a b n:Nat) (d0 d:Array α) (w:World) (R:Row1 enc w0 blk off d0) (hs:d0.size=d.size) (S:SW enc w0 blk off d w) (hab:a+n<=b) (hb:b+n<=d.size) (hsz:d.size<4611686018427387904) :
 Calls Tryz.prog 173 #[.slice (some ⟨blk,off,none⟩) d.size cap,.int .i64 a,.int .i64 b,.int .i64 n,.func (.func g) #[] cb] w fun e w'=>e=.returned (.tuple #[])/\∃ d',SW enc w0 blk off d' w'/\Exch a b n d d'/\∀ lo hi,lo<=a->b+n<=hi->hi<=d.size->PermIn lo hi d d':=by
 have hcl0:=R.hO.cells
 simp only [Value.cells] at hcl0
 have hst:=R.hO.store Tryz.prog
 have mixed:Tryz.prog.follows .mixedOrders=true:=by kernel_rfl
 have S0:Aside (SW enc w0 blk off d w):=S
 clear S
 go_enter Tryz.func173,Tryz.ntmps173
 go_wp2
 go_loopg [10] n (fun g1 vi wr=>∃ (i:Nat) (dk:Array α),vi=.int .i64 i/\i<=n/\n - i<=g1/\dk.size=d.size/\Aside (SW enc w0 blk off dk wr)/\Hid (Exch a b i d dk/\∀ lo hi,lo<=a->b+n<=hi->hi<=d.size->PermIn lo hi d dk))
 case atStart=>exact ⟨0,d,by go_num,by omega,by omega,rfl,S0,⟨Exch.zero a b d,fun lo hi _ _ _=>permIn_refl d lo hi⟩⟩
 case round =>
  clear S0
  obtain ⟨i,dk,rfl,hi,hg1,hsk,S1,HE⟩:=hrel
  by_cases hlt:i<n
  · have hltz:(i:Int)<(n:Int):=by omega
    obtain ⟨iN,hiN⟩:∃ q,q=a+i:=⟨_,rfl⟩
    obtain ⟨jN,hjN⟩:∃ q,q=b+i:=⟨_,rfl⟩
    have eai:((a:Int)+(i:Int)).toNat=iN:=by omega
    have pai:(0:Int)<=(a:Int)+(i:Int):=by omega
    have bai:(a:Int)+(i:Int)<(d.size:Int):=by omega
    have rai:IntKind.i64.wrap ((a:Int)+(i:Int))=(a:Int)+(i:Int):=by rw [IntKind.wrap_i64];omega
    have eaj:((b:Int)+(i:Int)).toNat=jN:=by omega
    have paj:(0:Int)<=(b:Int)+(i:Int):=by omega
    have baj:(b:Int)+(i:Int)<(d.size:Int):=by omega
    have raj:IntKind.i64.wrap ((b:Int)+(i:Int))=(b:Int)+(i:Int):=by rw [IntKind.wrap_i64];omega
    obtain ⟨xv,hxv⟩:∃ x,x=dk[a+i]! := ⟨_,rfl⟩
    obtain ⟨yv,hyv⟩:∃ x,x=dk[b+i]! := ⟨_,rfl⟩
    have S3:Aside (SW enc w0 blk off (swp dk (a+i) (b+i)) ((wr.setCell ⟨blk,off+iN,none⟩ (enc yv)).setCell ⟨blk,off+jN,none⟩ (enc xv)).drew):=by rw [hiN,hjN,hxv,hyv];exact S1.out.swapped R (a+i) (b+i) (by omega) (by omega)
    have ca:=S1.out.c1 R (by omega) (a+i) (by omega)
    have cb':=S1.out.c1 R (by omega) (b+i) (by omega)
    have fa:=S1.out.f1 R (by omega) (a+i) (by omega)
    have fb:=S1.out.f1 R (by omega) (b+i) (by omega)
    obtain ⟨uu,cu⟩:=S1.out.c2 R (by omega) (a+i) (b+i) (by omega) (by omega) (enc yv)
    rw [<- hjN,<- hiN] at cu
    rw [<- hxv,<- hiN] at ca
    rw [<- hyv,<- hjN] at cb'
    rw [<- hiN] at fa
    rw [<- hjN] at fb
    clear S1 hxv hyv hiN hjN
    go_wp2_with fail
    go_big_region_o
    clear ca cb' cu fa fb
    generalize ((wr.setCell ⟨blk,off+iN,none⟩ (enc yv)).setCell ⟨blk,off+jN,none⟩ (enc xv)).drew=w3 at S3 ⊢
    clear eai eaj pai paj bai baj rai raj
    go_wp2
    go_roundg (n - (i+1))
    case measure=>omega
    case rel=>exact ⟨i+1,swp dk (a+i) (b+i),by go_num,by omega,by omega,by rw [size_swp];exact hsk,S3,⟨HE.out.1.succ hlt hab hb,fun lo hi h1 h2 h3=>permIn_trans _ _ _ _ _ (HE.out.2 lo hi h1 h2 h3) (swp_permIn dk lo hi (a+i) (b+i) (by omega) (by omega) (by omega) (by omega) (by omega))⟩⟩
  · have hltz:¬ (i:Int)<(n:Int):=by omega
    have hin:i=n:=by omega
    subst hin
    go_wp2
    go_end0
    exact ⟨rfl,dk,S1.out,HE.out.1,HE.out.2⟩
theorem rotate_s (enc:α->Value) (cf:α->α->Int) (g:Nat) (cb:Array Value) (blk off cap:Nat) (w0:World)
 (eg:∀ args w,(callFunc g args).run Tryz.prog w=.ok (.enter g args) w) (a m b:Nat) (d0 d:Array α) (w:World) (R:Row1 enc w0 blk off d0) (hs:d0.size=d.size) (S:SW enc w0 blk off d w) (h1:a<m) (h2:m<b) (hb:b<=d.size) (hsz:d.size<4611686018427387904) :
 Calls Tryz.prog 161 #[.slice (some ⟨blk,off,none⟩) d.size cap,.int .i64 a,.int .i64 m,.int .i64 b,.func (.func g) #[] cb] w fun e w'=>e=.returned (.tuple #[])/\∃ d',SW enc w0 blk off d' w'/\Rot a m b d d'/\PermIn a b d d':=by
 have S0:Aside (SW enc w0 blk off d w):=S
 clear S
 go_enter Tryz.func161,Tryz.ntmps161
 go_wp2
 go_loopg [10,11] (b - a) (fun g1 vi vj wr=>∃ (i j:Nat) (dk:Array α),vi=.int .i64 i/\vj=.int .i64 j/\0<i/\0<j/\i<=m - a/\j<=b - m/\i+j<=g1/\dk.size=d.size/\Aside (SW enc w0 blk off dk wr)/\Hid (RotI a m b i j d dk))
 case atStart=>exact ⟨m - a,b - m,d,by first|rfl|(congr 1;omega),by first|rfl|(congr 1;omega),by omega,by omega,by omega,by omega,by omega,rfl,S0,RotI.start (by omega) (by omega)⟩
 case round =>
  clear S0
  obtain ⟨i,j,dk,rfl,rfl,hi0,hj0,him,hjm,hg1,hsk,S1,HE⟩:=hrel
  rcases Nat.lt_trichotomy i j with hlt|heq|hgt
  · have hn:((i:Int) != (j:Int))=true:=by simp;omega
    have hg:¬ (i:Int) > (j:Int):=by omega
    have con:=swapRange_s enc cf g cb blk off cap w0 eg (m - i) (m+j - i) i d0 dk wr R (by omega) S1.out (by omega) (by omega) (by omega)
    rw [hsk,show ((m - i:Nat):Int)=(m:Int) - (i:Int) by omega,show ((m+j - i:Nat):Int)=(m:Int)+(j:Int) - (i:Int) by omega] at con
    clear S1
    go_wp2_with (go_at_call 173;refine con.mono ?_;rintro e w2 ⟨rfl,d2,S2,E2,P2⟩;have SX:Aside (SW enc w0 blk off d2 w2):=S2;have EX:=hid E2;have PX:=hid P2;clear S2 E2 P2)
    clear con
    go_roundg (i+(j - i))
    case measure=>omega
    case rel=>exact ⟨i,j - i,d2,rfl,by first|rfl|(congr 1;omega),by omega,by omega,him,by omega,by omega,by rw [EX.out.size];exact hsk,SX,HE.out.lt (by omega) (by omega) hb hlt EX.out (PX.out a b (by omega) (by omega) (by omega))⟩
  · subst heq
    have con:=swapRange_s enc cf g cb blk off cap w0 eg (m - i) m i d0 dk wr R (by omega) S1.out (by omega) (by omega) (by omega)
    rw [hsk,show ((m - i:Nat):Int)=(m:Int) - (i:Int) by omega] at con
    clear S1
    go_wp2_with (go_at_call 173;refine con.mono ?_;rintro e w2 ⟨rfl,d2,S2,E2,P2⟩;have SX:Aside (SW enc w0 blk off d2 w2):=S2;have EX:=hid E2;have PX:=hid P2;clear S2 E2 P2)
    clear con
    go_end0
    exact ⟨rfl,d2,SX.out,HE.out.eq (by omega) (by omega) EX.out (PX.out a b (by omega) (by omega) (by omega))⟩
  · have hn:((i:Int) != (j:Int))=true:=by simp;omega
    have hg:(i:Int) > (j:Int):=by omega
    have con:=swapRange_s enc cf g cb blk off cap w0 eg (m - i) m j d0 dk wr R (by omega) S1.out (by omega) (by omega) (by omega)
    rw [hsk,show ((m - i:Nat):Int)=(m:Int) - (i:Int) by omega] at con
    clear S1
    go_wp2_with (go_at_call 173;refine con.mono ?_;rintro e w2 ⟨rfl,d2,S2,E2,P2⟩;have SX:Aside (SW enc w0 blk off d2 w2):=S2;have EX:=hid E2;have PX:=hid P2;clear S2 E2 P2)
    clear con
    go_roundg ((i - j)+j)
    case measure=>omega
    case rel=>exact ⟨i - j,j,d2,by first|rfl|(congr 1;omega),rfl,by omega,by omega,by omega,hjm,by omega,by rw [EX.out.size];exact hsk,SX,HE.out.gt (by omega) (by omega) hb hgt EX.out (PX.out a b (by omega) (by omega) (by omega))⟩
end
end Go.Proofs.YtgemihkcihigpaaGreatDoor
