/- The reference's generated row. -/
import Derived.Test.YtieojjngeibnmaaGreatDoorZB17
import Derived.Test.YtieojjngeibnmaaGreatDoorZB14
import Derived.Test.YtieojjngeibnmaaGreatDoorZB25
set_option linter.unusedVariables false
set_option linter.unusedSimpArgs false
set_option maxRecDepth 100000
set_option maxHeartbeats 64000000
namespace Go.Proofs.YtieojjngeibnmaaGreatDoor
open Go.Lib (hid)
section
open Go.RowKit
theorem owns_mt7 {w:World} {B q:Nat} {e:TypeId} (sz:Nat) (hB:B<=q) (h:w.heap[q]? = some (.cells #[] e (0,0))):w.ownsRow B e sz (.slice (some ⟨q,0,none⟩) 0 0) 0 [] :=
 ⟨by simp,Or.inr ⟨q,0,#[],rfl,hB,h,jR _,Nat.zero_le _,by simp,by simp⟩⟩
theorem val_cells (a b:Int) (c:ByteArray):∀ u ∈ [Value.int .i64 a,.int .i64 b,.string c],u.oneCell'=true:=by
 intro u hu
 simp only [List.mem_cons,List.not_mem_nil,or_false] at hu
 rcases hu with rfl|rfl|rfl <;> rfl
theorem owned_shape {w:World} {B:Nat} {e:TypeId} {sz n:Nat} {v:Value} {xs:List Value} (h:w.ownsRow B e sz v n xs):∃ a c,v=.slice a n c:=by
 obtain ⟨hlen,⟨rfl,h0⟩|⟨g,cap,cur,rfl,h1,h2⟩⟩:=h
 · subst h0
   exact ⟨_,_,rfl⟩
 · exact ⟨_,_,rfl⟩
theorem itoa5 {n:Int} (h0:0<=n) (h1:n<=13107):(⟨⟨Lib.itoa n⟩⟩:ByteArray).size<=21:=by
 exact Lib.itoa_length_le n (by omega) (by omega)
structure MR (w:World) (i:Nat) (r:List Val) (v:Value) (wr:World):Prop where
 len:r.length=i
 ok:∀ u ∈ r,ValS u
 o:wr.ownsRow w.heap.size 60 3 v i (r.flatMap valEnc)
 b:Below w.heap.size w wr
theorem MR.next {w wr w1 w2:World} {i:Nat} {r:List Val} {v v':Value} (h:MR w i r v wr) (hb:Below wr.heap.size wr w1) (u:Val) (hu:ValS u) (o:w2.ownsRow w.heap.size 60 3 v' (i+1) (r.flatMap valEnc ++ valEnc u)) (g:w1.grownBy w2 v.ownBlock):MR w (i+1) (r ++ [u]) v' w2:=by
 have b1:Below w.heap.size w w1:=h.b.trans (hb.mono h.b.size)
 refine ⟨by simp [h.len],fun x hx=>?_,by rw [List.flatMap_append];simpa using o,b1.grown g b1.size fun q e=>(h.o.lt q e).1⟩
 rcases List.mem_append.1 hx with hx|hx
 · exact h.ok x hx
 · rw [List.mem_singleton] at hx;rw [hx];exact hu
theorem MR.keep {w wr w1:World} {i:Nat} {r:List Val} {v:Value} (h:MR w i r v wr) (hb:Below wr.heap.size wr w1):MR w i r v w1:=⟨h.len,h.ok,owns_below h.o hb,h.b.trans (hb.mono h.b.size)⟩
theorem mrow_any {p:Nat->Prop} {a:Option Addr} {c:Nat} {l:List Int} {w:World} (h:SlV intR p w (.slice a l.length c) l) :
 Calls Tryz.prog 38 #[.int .i64 7,.slice a l.length c] w fun e w'=>(∃ (r:List Val) (v:Value),e=.returned v/\r.length=7/\(∀ u ∈ r,ValS u)/\w'.ownsRow w.heap.size 60 3 v 7 (r.flatMap valEnc))/\Below w.heap.size w w':=by
 obtain ⟨Pst,hPst⟩:∃ Pst,Pst=fun (e:Ending) (w':World)=>(∃ (r:List Val) (v:Value),e=.returned v/\r.length=7/\(∀ u ∈ r,ValS u)/\w'.ownsRow w.heap.size 60 3 v 7 (r.flatMap valEnc))/\Below w.heap.size w w':=⟨_,rfl⟩
 have HPST:=hid hPst
 rw [<- hPst]
 have H:=hid h
 have hll:=h.row.2.2.1
 obtain ⟨i0,hi0,hz0,hz1,hz2⟩:=info_parts (show (Tryz.prog.info? 60).map (fun i=>(i.zero,i.size,i.bytes))=some (some (.agg #[.int .i64 0,.int .i64 0,.string ByteArray.empty]),3,32) by kernel_rfl)
 have HV:=hid (show MR w 0 [] (.slice (some ⟨w.heap.size,0,none⟩) 0 0) (w.alloc (.cells #[] 60)) from ⟨rfl,nofun,owns_mt7 3 (jR _) (heap_alloc_new _ _),(b0R).alloc (jR _) _⟩)
 obtain ⟨V1,hV1⟩:∃ W,w.alloc (.cells #[] 60)=W:=⟨_,rfl⟩
 rw [hV1] at HV
 clear h hPst
 go_enter Tryz.func38,Tryz.ntmps38
 go_wp2_with fail
 go_loopw [5,6] (fun vo vi wr=>∃ (i:Nat) (r:List Val) (v:Value),i<=7/\vi=.int .i64 i/\vo=v/\Hid (MR w i r v wr)) (fun _ vi _=>7 - (intOf vi).toNat)
 case atStart=>exact ⟨0,[],_,by omega,rfl,rfl,HV⟩
 case round =>
  obtain ⟨i,r,v,hi,rfl,rfl,HM⟩:=hrel
  obtain ⟨va,vc,rfl⟩:=owned_shape HM.out.o
  by_cases hlt:i<7
  · have hsz:=HM.out.b.size
    go_upto_if 17 with (fail)
    go_cut [7] from 14 to 22 (fun x7 wx=>∃ x:Int,x7=.int .i64 x/\0<=x/\x<=65535/\wx=wr)
    case first =>
     by_cases hl:i<l.length
     · have rx:=(H.out.below HM.out.b).row.2.2.2
       obtain ⟨b,off,rfl,_,hbl⟩:=rx.addr (by intro e;rw [e] at hl;cases hl)
       have c0:=rx.int i hl
       obtain ⟨x,hx⟩:∃ x,l[i]=x:=⟨_,rfl⟩
       rw [hx] at c0
       obtain ⟨y,hy⟩:∃ y,x % 65536=y:=⟨_,rfl⟩
       have hy0:0<=y/\y<=65535:=by omega
       have hm:bits .and .i64 x 65535=y:=(and_mask x 16 (by omega)).trans hy
       clear rx hx hy
       go_wp2_with fail
       go_meet
       exact ⟨y,rfl,hy0.1,hy0.2,rfl⟩
     · go_wp2_with fail
       go_meet
       exact ⟨0,rfl,by omega,by omega,rfl⟩
    case rest =>
    obtain ⟨x,rfl,hx0,hx1,rfl⟩:=hcut
    obtain ⟨k,hk⟩:∃ k,Int.tmod x 5=k:=⟨_,rfl⟩
    have hk2:k=x % 5:=by rw [<- hk];exact Int.tmod_eq_emod_of_nonneg hx0
    have hkb:0<=k/\k<=4:=by omega
    obtain ⟨z,hz⟩:∃ z,Int.tdiv x 5=z:=⟨_,rfl⟩
    have hz2':z=x / 5:=by rw [<- hz];exact Int.tdiv_eq_ediv_of_nonneg hx0
    have hzb:0<=z/\z<=13107:=by omega
    clear hk2 hz2'
    have hi2:i<9223372036854775807:=by omega
    by_cases k0:k=0
    · have e0:(k == 0)=true:=by simpa using k0
      clear k0
      go_wp2_with (at_builtin;go_loud (refine wpList_append_own_at _ rfl _ _ 25 rfl w.heap.size 60 i0 _ 3 32 Tryz.underlying25 hi0 hz0 hz1 hz2 rfl (by decide) (.slice va i vc) i _ rfl (owns_below HM.out.o ((b0R).alloc (jR _) _)) ⟨wc.heap.size,0,none⟩ 1 1 [.int .i64 0,.int .i64 0,.string ⟨#[]⟩] rfl rfl (fun j u hj=>by rw [addr_add,jC (heap_alloc_new _ _)];simpa using hj) (val_cells _ _ _) (by unfold maxLen;omega) (by omega) (by simp;omega) ?_;intro v' w5 o5 g5 hx5 at5;clear hx5 at5))
      have HN:=hid (HM.out.next ((b0R).alloc (jR _) _) ⟨0,0,⟨#[]⟩⟩ ⟨⟨Or.inl rfl,by decide,by decide,by decide⟩,fun _=>rfl,fun _=>rfl⟩ o5 g5)
      clear o5 g5
      go_roundw
      case rel=>exact ⟨i+1,_,_,by omega,by go_num,rfl,HN⟩
      case measure=>simp [intOf];omega
    · have e0:(k == 0)=false:=by simpa using k0
      by_cases k1:k=1
      · have e1:(k == 1)=true:=by simpa using k1
        obtain ⟨y,hy⟩:∃ y,Int.tmod z 4=y:=⟨_,rfl⟩
        have hyb:0<=y/\y<=3:=by
         have:y=z % 4:=by rw [<- hy];exact Int.tmod_eq_emod_of_nonneg hzb.1
         omega
        obtain ⟨s,hs⟩:∃ s,(⟨#[97,98,99]⟩:ByteArray).extract 0 y.toNat=s:=⟨_,rfl⟩
        have hsz3:s.size<=40:=by rw [<- hs,ByteArray.size_extract];exact Nat.le_trans (Nat.sub_le _ _) (Nat.le_trans (Nat.min_le_right _ _) (by decide))
        clear k0 k1
        go_wp2_with (at_builtin;go_loud (refine wpList_append_own_at _ rfl _ _ 25 rfl w.heap.size 60 i0 _ 3 32 Tryz.underlying25 hi0 hz0 hz1 hz2 rfl (by decide) (.slice va i vc) i _ rfl (owns_below HM.out.o ((b0R).alloc (jR _) _)) ⟨wc.heap.size,0,none⟩ 1 1 [.int .i64 2,.int .i64 0,.string s] rfl rfl (fun j u hj=>by rw [addr_add,jC (heap_alloc_new _ _)];simpa using hj) (val_cells _ _ _) (by unfold maxLen;omega) (by omega) (by simp;omega) ?_;intro v' w5 o5 g5 hx5 at5;clear hx5 at5))
        have HN:=hid (HM.out.next ((b0R).alloc (jR _) _) ⟨2,0,s⟩ ⟨⟨Or.inr (Or.inr rfl),by show _<=(0:Int);decide,by show (0:Int)<=_;decide,hsz3⟩,fun _=>rfl,fun h=>absurd rfl h⟩ o5 g5)
        clear o5 g5
        go_roundw
        case rel=>exact ⟨i+1,_,_,by omega,by go_num,rfl,HN⟩
        case measure=>simp [intOf];omega
      · have e1:(k == 1)=false:=by simpa using k1
        by_cases k2:k=2
        · have e2:(k == 2)=true:=by simpa using k2
          have con:=digits_any z (by omega) (by omega) wc
          obtain ⟨s,hs⟩:∃ s,(⟨⟨Lib.itoa z⟩⟩:ByteArray)=s:=⟨_,rfl⟩
          have hsz3:s.size<=40:=by rw [<- hs];exact Nat.le_trans (itoa5 hzb.1 hzb.2) (by decide)
          rw [hs] at con
          clear k0 k1 k2 hs
          go_wp2_with fail
          refine con.mono ?_
          rintro e w4 ⟨rfl,b4⟩
          have hsz4:=b4.size
          go_wp2_with (at_builtin;go_loud (refine wpList_append_own_at _ rfl _ _ 25 rfl w.heap.size 60 i0 _ 3 32 Tryz.underlying25 hi0 hz0 hz1 hz2 rfl (by decide) (.slice va i vc) i _ rfl (owns_below (owns_below HM.out.o b4) ((b0R).alloc (jR _) _)) ⟨w4.heap.size,0,none⟩ 1 1 [.int .i64 2,.int .i64 0,.string s] rfl rfl (fun j u hj=>by rw [addr_add,jC (heap_alloc_new _ _)];simpa using hj) (val_cells _ _ _) (by unfold maxLen;omega) (by omega) (by simp;omega) ?_;intro v' w5 o5 g5 hx5 at5;clear hx5 at5))
          have HN:=hid ((HM.out.keep b4).next ((b0R).alloc (jR _) _) ⟨2,0,s⟩ ⟨⟨Or.inr (Or.inr rfl),by show _<=(0:Int);decide,by show (0:Int)<=_;decide,hsz3⟩,fun _=>rfl,fun h=>absurd rfl h⟩ o5 g5)
          clear o5 g5
          go_roundw
          case rel=>exact ⟨i+1,_,_,by omega,by go_num,rfl,HN⟩
          case measure=>simp [intOf];omega
        · have e2:(k == 2)=false:=by simpa using k2
          obtain ⟨y,hy⟩:∃ y,Int.tmod z 9=y:=⟨_,rfl⟩
          have hyb:0<=y/\y<=8:=by
           have:y=z % 9:=by rw [<- hy];exact Int.tmod_eq_emod_of_nonneg hzb.1
           omega
          clear k0 k1 k2
          go_wp2_with (at_builtin;go_loud (refine wpList_append_own_at _ rfl _ _ 25 rfl w.heap.size 60 i0 _ 3 32 Tryz.underlying25 hi0 hz0 hz1 hz2 rfl (by decide) (.slice va i vc) i _ rfl (owns_below HM.out.o ((b0R).alloc (jR _) _)) ⟨wc.heap.size,0,none⟩ 1 1 [.int .i64 1,.int .i64 (y - 2),.string ⟨#[]⟩] rfl rfl (fun j u hj=>by rw [addr_add,jC (heap_alloc_new _ _)];simpa using hj) (val_cells _ _ _) (by unfold maxLen;omega) (by omega) (by simp;omega) ?_;intro v' w5 o5 g5 hx5 at5;clear hx5 at5))
          have HN:=hid (HM.out.next ((b0R).alloc (jR _) _) ⟨1,y - 2,⟨#[]⟩⟩ ⟨⟨Or.inr (Or.inl rfl),by show _<=y - 2;omega,by show y - 2<=_;omega,Nat.zero_le _⟩,fun h=>absurd rfl h,fun _=>rfl⟩ o5 g5)
          clear o5 g5
          go_roundw
          case rel=>exact ⟨i+1,_,_,by omega,by go_num,rfl,HN⟩
          case measure=>simp [intOf];omega
  · have h7:i=7:=by omega
    subst h7
    have HR:=hid (HM.out)
    go_wp2_with fail
    rw [HPST.out]
    exact ⟨⟨r,_,rfl,HR.out.len,HR.out.ok,HR.out.o⟩,HR.out.b⟩
end
end Go.Proofs.YtieojjngeibnmaaGreatDoor
