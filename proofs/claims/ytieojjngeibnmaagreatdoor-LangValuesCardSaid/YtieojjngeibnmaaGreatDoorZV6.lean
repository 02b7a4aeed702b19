/- LangValues: the walk. -/
import Derived.Test.YtieojjngeibnmaaGreatDoorZD35
import Derived.Test.YtieojjngeibnmaaGreatDoorZV3
import Derived.Test.YtieojjngeibnmaaGreatDoorZV4
import Derived.Test.YtieojjngeibnmaaGreatDoorZV5
import Derived.Test.YtieojjngeibnmaaGreatDoorZD2
set_option linter.unusedVariables false
set_option linter.unusedSimpArgs false
set_option maxRecDepth 100000
set_option maxHeartbeats 64000000
namespace Go.Proofs.YtieojjngeibnmaaGreatDoor
open Go.Lib (hid)
section
open Go.RowKit
theorem mask16v (x:Int):bits .and .i64 x 65535=x % 65536:=and_mask x 16 (by omega)
theorem owns_mt {w:World} {B q:Nat} {e:TypeId} (sz:Nat) (hB:B<=q) (h:w.heap[q]? = some (.cells #[] e (0,0))):w.ownsRow B e sz (.slice (some ⟨q,0,none⟩) 0 0) 0 [] :=
 ⟨by simp,Or.inr ⟨q,0,#[],rfl,hB,h,jR _,Nat.zero_le _,by simp,by simp⟩⟩
theorem app_bytesv {S o:ByteArray} {A Z:List UInt8} (h:S.data.toList=A) (k:o.data.toList=Z):(S ++ o).data.toList=A ++ Z:=by
 rw [ByteArray.data_append,Array.toList_append,h,k]
theorem bytes_sizev {S:ByteArray} {A:List UInt8} (h:S.data.toList=A):S.size=A.length:=by
 rw [<- h];simp
def BoxV (wr wx:World) (k n:Int) (s:ByteArray):Prop:=wx.heap[wr.heap.size]? = some (.cells #[.int .i64 k,.int .i64 n,.string s] 60 (0,0))/\Below wr.heap.size wr wx
theorem BoxV.n {wr wx:World} {k n:Int} {s:ByteArray} (h:BoxV wr wx k n s) (x:Int):BoxV wr (wx.setCell ⟨wr.heap.size,1,none⟩ (.int .i64 x)) k x s :=
 ⟨heap_setCell_same _ _ 1 _ _ _ h.1,h.2.setCell (p:=⟨wr.heap.size,1,none⟩) (jR _) _⟩
theorem BoxV.s {wr wx:World} {k n:Int} {s:ByteArray} (h:BoxV wr wx k n s) (x:ByteArray):BoxV wr (wx.setCell ⟨wr.heap.size,2,none⟩ (.string x)) k n x :=
 ⟨heap_setCell_same _ _ 2 _ _ _ h.1,h.2.setCell (p:=⟨wr.heap.size,2,none⟩) (jR _) _⟩
structure VI (r:List Val) (w2:World) (i:Nat) (S:ByteArray) (v:Value) (wr:World):Prop where
 t:S.data.toList=insL ++ joinV ((r.take i).map canV)
 o:wr.ownsRow w2.heap.size 60 3 v i (((r.take i).map canV).flatMap valEnc)
 b:Below w2.heap.size w2 wr
theorem VI.len {r:List Val} {w2 wr:World} {i:Nat} {S:ByteArray} {v:Value} (h:VI r w2 i S v wr) (hr:∀ v ∈ r,-9223372036854775808<=v.n/\v.n<=9223372036854775807) (hi:i<=6):S.size<=1000:=by
 rw [bytes_sizev h.t,List.length_append]
 have h1:∀ v ∈ (r.take i).map canV,PrintsV v:=fun v hv=>by
  obtain ⟨u,hu,rfl⟩:=List.mem_map.1 hv
  exact can_prints (hr u (List.mem_of_mem_take hu))
 have h2:=join_small h1
 have h3:((r.take i).map canV).length<=i:=by rw [List.length_map,List.length_take];exact Nat.min_le_left _ _
 have h4:insL.length=22:=rfl
 omega
theorem text_next0 {r:List Val} {i:Nat} {S T:ByteArray} {v:Val} (h:S.data.toList=insL ++ joinV ((r.take i).map canV)) (hs:(r.take (i+1)).map canV=(r.take i).map canV ++ [v]) (hT:T=textV v) (h0:i=0) :
 (S ++ T).data.toList=insL ++ joinV ((r.take (i+1)).map canV):=by
 rw [hs,join_snoc,app_bytesv h (by rw [hT]),if_pos (by rw [h0];rfl)]
 simp
theorem text_next1 {r:List Val} {i:Nat} {S T:ByteArray} {v:Val} (h:S.data.toList=insL ++ joinV ((r.take i).map canV)) (hs:(r.take (i+1)).map canV=(r.take i).map canV ++ [v]) (hT:T=textV v) (h0:i ≠ 0) (hi:i<r.length) :
 ((S ++ ⟨#[44]⟩) ++ T).data.toList=insL ++ joinV ((r.take (i+1)).map canV):=by
 have hne:(r.take i).map canV ≠ []:=fun e=>by
  have:=congrArg List.length e
  rw [List.length_map,List.length_take] at this
  simp only [List.length_nil] at this
  omega
 rw [hs,join_snoc,app_bytesv (app_bytesv h (rfl:(⟨#[44]⟩:ByteArray).data.toList=[44])) (by rw [hT]),if_neg hne]
 simp
theorem vcells (a b:Int) (c:ByteArray):∀ u ∈ [Value.int .i64 a,.int .i64 b,.string c],u.oneCell'=true:=by
 intro u hu
 simp only [List.mem_cons,List.not_mem_nil,or_false] at hu
 rcases hu with rfl|rfl|rfl <;> rfl
theorem VI.below5 {r:List Val} {w2 wr wc w5:World} {i:Nat} {S:ByteArray} {v:Value} {k n:Int} {s:ByteArray} {o:Obj} (h:VI r w2 i S v wr) (hb:BoxV wr wc k n s) (g:(wc.alloc o).grownBy w5 v.ownBlock):Below w2.heap.size w2 w5:=by
 have b1:Below w2.heap.size w2 (wc.alloc o):=step2 h.b (step2 hb.2 ((b0R).alloc (jR _) o))
 exact b1.grown g b1.size fun q e=>(h.o.lt q e).1
theorem box_kept {r:List Val} {w2 wr wc w5:World} {i:Nat} {S:ByteArray} {v:Value} {k n:Int} {s:ByteArray} {o:Obj} (h:VI r w2 i S v wr) (hb:BoxV wr wc k n s) (g:(wc.alloc o).grownBy w5 v.ownBlock):w5.heap[wr.heap.size]? = some (.cells #[.int .i64 k,.int .i64 n,.string s] 60 (0,0)):=by
 have hl:=jB hb.1
 have h1:(wc.alloc o).heap[wr.heap.size]? = some (.cells #[.int .i64 k,.int .i64 n,.string s] 60 (0,0)):=(heap_alloc_old _ _ hl).trans hb.1
 exact (g.block _ (by simp;omega) (fun e=>absurd (h.o.lt _ e.symm).2 (Nat.lt_irrefl _))).trans h1
theorem values_walk {p:Nat->Prop} {a:Option Addr} {c:Nat} {r:List Val} {w:World} (h:SlV valR p w (.slice a r.length c) r) (hr:∀ v ∈ r,-9223372036854775808<=v.n/\v.n<=9223372036854775807) (he:EnvL w) (hk:KindsAt w) :
 Calls Tryz.prog 9 #[.slice a r.length c] w fun e w'=>e=.returned (.bool true)/\Below w.heap.size w w':=by
 obtain ⟨Pst,hPst⟩:∃ Pst,Pst=fun (e:Ending) (w':World)=>e=.returned (.bool true)/\Below w.heap.size w w':=⟨_,rfl⟩
 have HPST:=hid hPst
 rw [<- hPst]
 have con:=sanity_any he
 obtain ⟨m,hm⟩:∃ m,m=min r.length 6:=⟨_,rfl⟩
 have HM:=hid (show m<=r.length/\m<=6/\(m=r.length \/ m=6) by omega)
 have H:=hid h
 have HR:=hid hr
 have HE:=hid he
 have HK:=hid hk
 have hrl:=h.row.2.2.1
 obtain ⟨i0,hi0,hz0,hz1,hz2⟩:=info_parts (show (Tryz.prog.info? 60).map (fun i=>(i.zero,i.size,i.bytes))=some (some (.agg #[.int .i64 0,.int .i64 0,.string ByteArray.empty]),3,32) by kernel_rfl)
 clear hPst he hm h hr hk
 go_enter Tryz.func9,Tryz.ntmps9
 go_wp2_with fail
 refine con.mono ?_
 rintro e w2 ⟨rfl,b2⟩
 have B2:=hid b2
 clear con b2
 obtain ⟨V1,hV1⟩:∃ W,w2.alloc (.cells #[] 60)=W:=⟨_,rfl⟩
 have HV:=hid (show VI r w2 0 ⟨⟨insL⟩⟩ (.slice (some ⟨w2.heap.size,0,none⟩) 0 0) V1 from ⟨by show insL=insL ++ [];rw [List.append_nil],owns_mt 3 (jR _) (by rw [<- hV1];exact heap_alloc_new _ _),by rw [<- hV1];exact (b0R).alloc (jR _) _⟩)
 go_wp2_with fail
 go_loopw [4,5,6] (fun x4 x5 x6 wr=>∃ (i:Nat) (S:ByteArray) (v:Value),i<=m/\x6=.int .i64 i/\x5=.string S/\x4=v/\Hid (VI r w2 i S v wr)) (fun _ _ x6 _=>m - (intOf x6).toNat)
 case atStart=>exact ⟨0,⟨⟨insL⟩⟩,_,Nat.zero_le _,rfl,rfl,rfl,HV⟩
 case round =>
  obtain ⟨i,S,v,hi,rfl,rfl,rfl,HI⟩:=hrel
  have hi6:i<=6:=Nat.le_trans hi HM.out.2.1
  have hSs:=HI.out.len HR.out hi6
  obtain ⟨va,vc,rfl,-⟩:=owns_shape' HI.out.o
  go_upto_region 5 with (fail)
  go_cut [25] from 18 to 24 (fun x25 wx=>x25=.bool (decide (i<m))/\Hid (wx=wr))
  case first =>
   rcases (show (i<m/\i<r.length/\i<6) \/ (¬ i<m/\¬ i<r.length) \/ (¬ i<m/\i<r.length/\¬ i<6) by have:=HM.out;omega) with ⟨h1,h2,h3⟩|⟨h1,h2⟩|⟨h1,h2,h3⟩
   · have d1:decide (i<m)=true:=decide_eq_true h1
     go_wp2_with fail
     go_meet
     exact ⟨by rw [d1,show decide ((i:Int)<6)=true from decide_eq_true (by omega)],rfl⟩
   · have d1:decide (i<m)=false:=decide_eq_false h1
     go_wp2_with fail
     go_meet
     exact ⟨by rw [d1],rfl⟩
   · have d1:decide (i<m)=false:=decide_eq_false h1
     go_wp2_with fail
     go_meet
     exact ⟨by rw [d1,show decide ((i:Int)<6)=false from decide_eq_false (by omega)],rfl⟩
  case rest =>
  obtain ⟨rfl,hwc⟩:=hcut
  have hwc:=hwc.out.symm
  subst hwc
  by_cases hlt:i<m
  · have dm:decide (i<m)=true:=decide_eq_true hlt
    have hir:i<r.length:=jL hlt HM.out.1
    have hi5:i<=5:=by have:=HM.out.2.1;omega
    rw [dm]
    have rx:=(H.out.below (step2 B2.out HI.out.b)).row.2.2.2
    obtain ⟨ba,oa,rfl,_,hba⟩:=rx.addr (by intro e;rw [e] at hir;cases hir)
    have X:=rx.val i hir
    obtain ⟨⟨xk,xn,xs⟩,hx⟩:∃ x,r[i]=x:=⟨_,rfl⟩
    rw [hx] at X
    have HX:=hid X
    have HBA:=hid hba
    have HSN:=hid (show (r.take (i+1)).map canV=(r.take i).map canV ++ [canV ⟨xk,xn,xs⟩] by rw [row_snoc r i hir,hx])
    have HP:=hid (show PrintsV (canV ⟨xk,xn,xs⟩)/\PlainV (canV ⟨xk,xn,xs⟩) from ⟨can_prints (by rw [<- hx];exact HR.out _ (List.getElem_mem hir)),can_plain _⟩)
    obtain ⟨K,hKe⟩:∃ K:Nat,(K:Int)=xk % 65536 % 3:=⟨(xk % 65536 % 3).toNat,by omega⟩
    have HKE:=hid hKe
    have hK3:K=0 \/ K=1 \/ K=2:=by omega
    clear rx hba hx hKe
    have e1:=mask16v xk
    obtain ⟨y,hy⟩:∃ y,y=xk % 65536:=⟨_,rfl⟩
    have hy1:0<=y:=by omega
    have e2:Int.tmod y 3=(K:Int):=by rw [Int.tmod_eq_emod_of_nonneg hy1,hy];exact HKE.out.symm
    rw [<- hy] at e1
    clear hy
    obtain ⟨X0,X1,X2⟩:=X
    simp only at X0 X1 X2
    go_upto_region 8 with (fail)
    clear X0 X1 X2 e1 e2 hy1
    obtain ⟨W1,hW1⟩:∃ W,wr.alloc (.cells #[.int .i64 (K:Nat),.int .i64 0,.string ⟨#[]⟩] 60)=W:=⟨_,rfl⟩
    have hb1:BoxV wr W1 (K:Nat) 0 ⟨#[]⟩:=by rw [<- hW1];exact ⟨heap_alloc_new _ _,(b0R).alloc (jR _) _⟩
    have HB1:=hid hb1
    rw [hW1]
    clear hb1 hW1
    obtain ⟨n1,hn1⟩:∃ n1,n1=if (K:Int)=1 then xn else 0:=⟨_,rfl⟩
    have HN1:=hid hn1
    clear hn1
    have z0:=jC HB1.out.1 0
    simp only [List.getElem?_toArray,List.getElem?_cons_zero] at z0
    go_upto_if 38 with (fail)
    clear z0
    go_cut [7] from 36 to 44 (fun x7 wx=>x7=.pointer (some ⟨wr.heap.size,0,none⟩)/\Hid (BoxV wr wx (K:Nat) n1 ⟨#[]⟩))
    case first =>
     have z1:=jC HB1.out.1 1
     have f1:=free_of HB1.out.1 1
     simp only [gT,gZ,gS] at z1
     have c1:=(HB1.out.2.cell (p:=⟨ba,oa+i * 3+1,none⟩) HBA.out).trans HX.out.2.1
     by_cases hk1:K=1
     · have d4:((K:Int) == 1)=true:=by simpa using (show (K:Int)=1 by omega)
       have d5:(K == 1)=true:=by simpa using hk1
       have HE1:=hid (show n1=xn by rw [HN1.out,if_pos (by omega)])
       clear hk1
       go_wp2_with fail
       go_meet
       refine ⟨rfl,?_⟩
       rw [HE1.out]
       exact HB1.out.n xn
     · have d4:((K:Int) == 1)=false:=by simpa using (show ¬ (K:Int)=1 by omega)
       have d5:(K == 1)=false:=by simpa using hk1
       have HE1:=hid (show n1=0 by rw [HN1.out,if_neg (by omega)])
       clear hk1
       go_wp2_with fail
       go_meet
       refine ⟨rfl,?_⟩
       rw [HE1.out]
       exact HB1.out
    case rest =>
    obtain ⟨rfl,HB2⟩:=hcut
    clear HB1
    obtain ⟨s1,hs1⟩:∃ s1,s1=if (K:Int)=2 then xs.extract 0 (min xs.size 40) else noStr:=⟨_,rfl⟩
    have HS1:=hid hs1
    clear hs1
    have z0:=jC HB2.out.1 0
    simp only [List.getElem?_toArray,List.getElem?_cons_zero] at z0
    go_upto_if 47 with (fail)
    clear z0
    go_cut [7] from 45 to 61 (fun x7 wx=>x7=.pointer (some ⟨wr.heap.size,0,none⟩)/\Hid (BoxV wr wx (K:Nat) n1 s1))
    case first =>
     by_cases hk1:K=2
     · have d4:((K:Int) == 2)=true:=by simpa using (show (K:Int)=2 by omega)
       have d5:(K == 2)=true:=by simpa using hk1
       have HE1:=hid (show s1=xs.extract 0 (min xs.size 40) by rw [HS1.out,if_pos (by omega)])
       obtain ⟨j,hj⟩:∃ j:Nat,j=min xs.size 40:=⟨_,rfl⟩
       have HJ:=hid hj
       have hj1:min (xs.size:Int) 40=(j:Int):=by omega
       have hj2:j<=xs.size:=by omega
       clear hk1 hj
       go_upto_region 11 with (fail)
       refine wp_region_class_tail 14 (Below wc.heap.size wc) (by kernel_rfl) (by kernel_rfl) (Below.drew b0R) (fun ne=>?_)
       have c1:=fun z:Wld (Below wc.heap.size wc)=>((HB2.out.2.trans (z.good.mono HB2.out.2.size)).cell (p:=⟨ba,oa+i * 3+2,none⟩) HBA.out).trans HX.out.2.2
       simp only [List.take_succ_cons,List.take_zero,List.drop_succ_cons,List.drop_zero]
       repeat (go_big_quiet_step (fail))
       refine wpQuiet_nil ?_
       intro w5 b3
       have hb5:=(b3.block _ (jB HB2.out.1)).trans HB2.out.1
       have z2:=jC hb5 2
       have f2:=free_of hb5 2
       simp only [gT,gZ,gS] at z2
       have HB5:=hid (show BoxV wr w5 (K:Nat) n1 ⟨#[]⟩ from ⟨hb5,HB2.out.2.trans (b3.mono HB2.out.2.size)⟩)
       clear c1 b3 hb5
       go_wp2_with fail
       go_meet
       refine ⟨rfl,?_⟩
       rw [HE1.out,<- HJ.out]
       exact HB5.out.s _
     · have d4:((K:Int) == 2)=false:=by simpa using (show ¬ (K:Int)=2 by omega)
       have d5:(K == 2)=false:=by simpa using hk1
       have HE1:=hid (show s1=noStr by rw [HS1.out,if_neg (by omega)])
       clear hk1
       go_wp2_with fail
       go_meet
       refine ⟨rfl,?_⟩
       rw [HE1.out]
       exact HB2.out
    case rest =>
    obtain ⟨rfl,HB3⟩:=hcut
    clear HB2
    have HCV:=hid (show canV ⟨xk,xn,xs⟩=⟨(K:Int),n1,s1⟩ by rw [HN1.out,HS1.out,HKE.out];rfl)
    rw [HCV.out] at HSN HP
    clear HN1 HS1 HCV HKE
    have hb0:=HB3.out.1
    have z0:=jC hb0 0
    have z1:=jC hb0 1
    have z2:=jC hb0 2
    simp only [gT,gZ,gS] at z0 z1 z2
    have hsz:=HI.out.b.size
    have hsz2:=HB3.out.2.size
    clear hb0
    go_upto_region 13 with (at_builtin;go_loud (refine wpList_append_own_at _ rfl _ _ 25 rfl w2.heap.size 60 i0 _ 3 32 Tryz.underlying25 hi0 hz0 hz1 hz2 rfl (by decide) (.slice va i vc) i _ rfl (owns_below (owns_below HI.out.o HB3.out.2) ((b0R).alloc (jR _) _)) ⟨wc.heap.size,0,none⟩ 1 1 [.int .i64 K,.int .i64 n1,.string s1] rfl rfl (fun j u hj=>by rw [addr_add,jC (heap_alloc_new _ _)];simpa using hj) (vcells _ _ _) (by unfold maxLen;omega) (by omega) (by simp;omega) ?_;intro v' w5 o5 g5 hx5 at5;clear hx5 at5))
    have O5:=hid (show w5.ownsRow w2.heap.size 60 3 v' (i+1) (((r.take (i+1)).map canV).flatMap valEnc) by rw [HSN.out,List.flatMap_append];exact o5)
    have B5:=hid (HI.out.below5 HB3.out g5)
    have hb5:=hid (box_kept HI.out HB3.out g5)
    clear z0 z1 z2 o5 g5
    obtain ⟨va',vc',rfl,-⟩:=owns_shape' O5.out
    have z0:=jC hb5.out 0
    have z1:=jC hb5.out 1
    have z2:=jC hb5.out 2
    simp only [gT,gZ,gS] at z0 z1 z2
    have con:=text_any ⟨(K:Nat),n1,s1⟩ ⟨HP.out.1.2.1,HP.out.1.2.2.1,Nat.le_trans HP.out.1.2.2.2 (by decide)⟩ (HE.out.below (step2 B2.out B5.out))
    go_wp2_with fail
    refine con.mono ?_
    rintro e w6 ⟨rfl,b6⟩
    have B6:=hid (step2 B5.out b6)
    have O6:=hid (owns_below O5.out b6)
    have HB6:=cy b6 hb5
    clear con b6 z0 z1 z2 B5 O5 hb5
    obtain ⟨T,hT⟩:∃ T,T=textV ⟨(K:Nat),n1,s1⟩:=⟨_,rfl⟩
    have HT:=hid hT
    rw [<- hT]
    have hts:T.size<=82:=by rw [hT];exact text_small HP.out.1
    have con:=lex_ok (HE.out.below (step2 B2.out B6.out)) (s:=T) (Nat.le_trans hts (by decide)) (by rw [hT];exact value_lex _ HP.out.1)
    clear hT
    go_wp2_with fail
    refine con.mono ?_
    rintro e w7 ⟨lv,rfl,b7,l7⟩
    have B7:=hid (step2 B6.out b7)
    have O7:=hid (owns_below O6.out b7)
    have HB7:=cy b7 HB6
    clear con b7 B6 O6 HB6
    obtain ⟨la,lc,rfl⟩:=l7.shape
    obtain ⟨_,_,_,rt⟩:=l7.row
    obtain ⟨bt,ot,rfl,_,hbt⟩:=rt.addr (by simp)
    obtain ⟨⟨tk,tp,tt,tn⟩,htk⟩:∃ t,tokV ⟨(K:Nat),n1,s1⟩ 0=t:=⟨_,rfl⟩
    rw [htk] at rt
    have htp:tp=0:=by
     have:=congrArg Tok.pos htk
     rw [show (tokV ⟨(K:Nat),n1,s1⟩ 0).pos=0 by unfold tokV;split;rfl;split <;> rfl] at this
     exact this.symm
    have t0:w7.cell? ⟨bt,ot,none⟩=some (.int .i64 tk):=by simpa [tokEnc] using rt.flat 0 (by simp) 0 (by omega)
    have t1:w7.cell? ⟨bt,ot+1,none⟩=some (.int .i64 tp):=by simpa [tokEnc] using rt.flat 0 (by simp) 1 (by omega)
    have t2:w7.cell? ⟨bt,ot+2,none⟩=some (.string tt):=by simpa [tokEnc] using rt.flat 0 (by simp) 2 (by omega)
    have t3:w7.cell? ⟨bt,ot+3,none⟩=some (.int .i64 tn):=by simpa [tokEnc] using rt.flat 0 (by simp) 3 (by omega)
    rw [htp] at t1
    have HTK:=hid htk
    clear rt l7 htk htp
    go_upto_region 17 with (fail)
    go_cut [12] from 88 to 146 (fun x12 wx=>x12=.bool true/\Hid (Below w7.heap.size w7 wx))
    case first =>
     have QU:=hid (show ∀ z:Wld (Below w7.heap.size w7),(z.val.cell? ⟨bt,ot,none⟩=some (.int .i64 tk)/\z.val.cell? ⟨bt,ot+2,none⟩=some (.string tt)/\z.val.cell? ⟨bt,ot+3,none⟩=some (.int .i64 tn))/\z.val.cell? ⟨wr.heap.size,0,none⟩=some (.int .i64 (K:Nat))/\z.val.cell? ⟨wr.heap.size,1,none⟩=some (.int .i64 n1)/\z.val.cell? ⟨wr.heap.size,2,none⟩=some (.string s1) from fun z=>⟨⟨(z.good.cell (p:=⟨bt,ot,none⟩) hbt).trans t0,(z.good.cell (p:=⟨bt,ot+2,none⟩) hbt).trans t2,(z.good.cell (p:=⟨bt,ot+3,none⟩) hbt).trans t3⟩,by simpa using jC ((z.good.block _ (jB HB7.out)).trans HB7.out) 0,by simpa using jC ((z.good.block _ (jB HB7.out)).trans HB7.out) 1,by simpa using jC ((z.good.block _ (jB HB7.out)).trans HB7.out) 2⟩)
     clear t0 t1 t2 t3
     refine wp_region_class (Below w7.heap.size w7) (by kernel_rfl) (by kernel_rfl) (Below.drew b0R) (fun ne=>?_)
     have q0:=fun z=>(QU.out z).1.1
     have q1:=fun z=>(QU.out z).1.2.1
     have q2:=fun z=>(QU.out z).1.2.2
     have q3:=fun z=>(QU.out z).2.1
     have q4:=fun z=>(QU.out z).2.2.1
     have q5:=fun z=>(QU.out z).2.2.2
     rcases hK3 with rfl|rfl|rfl
     · obtain ⟨rfl,rfl,rfl,rfl⟩:=Tok.mk.inj (show (⟨1,0,w_null,0⟩:Tok)=⟨tk,tp,tt,tn⟩ from HTK.out)
       repeat (go_big_quiet_step (fail))
       refine wpQuiet_nil ?_
       intro w8 b8
       go_wp2_with fail
       go_meet
       exact ⟨rfl,b8⟩
     · obtain ⟨rfl,rfl,rfl,rfl⟩:=Tok.mk.inj (show (⟨2,0,noStr,n1⟩:Tok)=⟨tk,tp,tt,tn⟩ from HTK.out)
       repeat (go_big_quiet_step (fail))
       refine wpQuiet_nil ?_
       intro w8 b8
       go_wp2_with fail
       go_meet
       exact ⟨rfl,b8⟩
     · obtain ⟨rfl,rfl,rfl,rfl⟩:=Tok.mk.inj (show (⟨3,0,s1,0⟩:Tok)=⟨tk,tp,tt,tn⟩ from HTK.out)
       repeat (go_big_quiet_step (fail))
       refine wpQuiet_nil ?_
       intro w8 b8
       go_wp2_with fail
       go_meet
       exact ⟨rfl,b8⟩
    case rest =>
    obtain ⟨rfl,B8⟩:=hcut
    have hbw:=hid (step2 B7.out B8.out)
    have O8:=hid (owns_below O7.out B8.out)
    clear t0 t1 t2 t3 HTK HB7 O7 B7
    by_cases h0:i=0
    · have HTX:=hid (text_next0 HI.out.t HSN.out HT.out h0)
      have d0:decide (0<i)=false:=decide_eq_false (by omega)
      have d1:decide ((0:Int)<(i:Int))=false:=decide_eq_false (by omega)
      clear h0
      go_wp2_with fail
      go_roundw
      case rel=>exact ⟨i+1,_,_,hlt,by go_num,rfl,rfl,⟨HTX.out,O8.out,hbw.out⟩⟩
      case measure=>simp [intOf];omega
    · have HTX:=hid (text_next1 HI.out.t HSN.out HT.out h0 hir)
      have d0:decide (0<i)=true:=decide_eq_true (by omega)
      have d1:decide ((0:Int)<(i:Int))=true:=decide_eq_true (by omega)
      clear h0
      go_wp2_with fail
      go_roundw
      case rel=>exact ⟨i+1,_,_,hlt,by go_num,rfl,rfl,⟨HTX.out,O8.out,hbw.out⟩⟩
      case measure=>simp [intOf];omega
  · have dm:decide (i<m)=false:=decide_eq_false hlt
    have him:i=m:=by omega
    rw [dm]
    obtain ⟨q,hq⟩:∃ q,q=(r.take i).map canV:=⟨_,rfl⟩
    have hql:i=q.length:=by
     rw [hq,List.length_map,List.length_take]
     have:=HM.out
     omega
    have HQ:=hid (show ∀ u ∈ q,PrintsV u/\PlainV u from fun u hu=>by
     rw [hq] at hu
     obtain ⟨x,hx,rfl⟩:=List.mem_map.1 hu
     exact ⟨can_prints (HR.out x (List.mem_of_mem_take hx)),can_plain x⟩)
    have ht:=HI.out.t
    have ho:=HI.out.o
    rw [<- hq] at ht ho
    have HB:=hid HI.out.b
    clear HI hq him hi hSs hlt
    subst hql
    obtain ⟨a',c',e1,hc,hrow,_⟩:=RowAt.of_owns_flat (sz:=3) (enc:=valEnc) (hl:=fun _=>rfl) (p:=fun _=>True) ho (fun _ _=>trivial)
    simp only [Value.slice.injEq] at e1
    obtain ⟨rfl,-,rfl⟩:=e1
    have HROW:=hid (show SlV valR (fun _=>True) wr (.slice va q.length vc) q from ⟨va,vc,rfl,hc,by omega,hrow⟩)
    have HE':=hid (HE.out.below (step2 B2.out HB.out))
    have hsS:S.size<=600:=by
     rw [bytes_sizev ht,List.length_append]
     have h2:=join_small (fun v hv=>(HQ.out v hv).1)
     have h4:insL.length=22:=rfl
     omega
    have hs2:(S ++ ⟨#[41]⟩).size<=4294967000:=by
     rw [ByteArray.size_append]
     have:(⟨#[41]⟩:ByteArray).size=1:=rfl
     omega
    have HS2:=hid (show (S ++ ⟨#[41]⟩).data.toList=insL ++ joinV q ++ [41] from app_bytesv ht rfl)
    clear ht ho hc hrow
    by_cases h0:q.length=0
    · have hqn:q=[]:=List.eq_nil_of_length_eq_zero h0
      have con:Calls Tryz.prog 21 #[.string (S ++ ⟨#[41]⟩)] wr (fun e w'=>e=.returned (.tuple #[.agg #[.int .i64 0,.string ⟨#[]⟩,.string ⟨#[]⟩,.slice none 0 0,.slice none 0 0,.slice none 0 0,.slice none 0 0,.slice none 0 0,.string ⟨#[]⟩,.string ⟨#[]⟩,.string ⟨#[]⟩,.int .i64 0,.slice none 0 0,.int .i64 0,.int .i64 0],.int .i64 22,.int .i64 60])/\Below wr.heap.size wr w') :=
       parse_bad (er:=(22,60)) HE'.out hs2 (by
        have e9:(S ++ ⟨#[41]⟩)=⟨⟨insL ++ [41]⟩⟩:=by
         apply ByteArray.ext
         apply Array.toList_inj.1
         rw [HS2.out,hqn]
         rfl
        rw [e9]
        exact values_none)
      have hz:((q.length:Nat):Int)=0:=by omega
      have hz2:(q.length == 0)=true:=by simpa using h0
      clear h0 hs2
      subst hqn
      go_wp2_with fail
      refine con.mono ?_
      rintro e w3 ⟨rfl,b3⟩
      have B3:=hid (step2 HB.out b3)
      clear con b3
      go_wp2_with fail
      rw [HPST.out]
      exact ⟨rfl,step2 B2.out (step2 B3.out ((b0R).alloc (jR _) _))⟩
    · obtain ⟨Q,hQ⟩:∃ Q,Q={ stmt0 with kind:=4,table:=⟨#[116]⟩,row:=q }:=⟨_,rfl⟩
      have con:=parse_ok (q:=Q) HE'.out hs2 (by rw [hQ];exact join_back HQ.out (fun e=>h0 (by rw [e];rfl)) hi6 HS2.out)
      have htr:Q.row=q:=by rw [hQ]
      have hz:(((q.length:Nat):Int) == 0)=false:=by simpa using (show ¬ (q.length:Int)=0 by omega)
      have hz2:(q.length == 0)=false:=by simpa using h0
      clear h0 hs2 hQ
      go_wp2_with fail
      refine con.mono ?_
      rintro e w3 ⟨L3,rfl,b3,l3⟩
      obtain ⟨⟨o0,o00,e1⟩,⟨o1,o11,e2⟩,⟨o2,o22,e3⟩,⟨o3,o33,e4⟩,⟨o4,o44,e5⟩,⟨o5,o55,e6⟩⟩:=l3.shapes
      obtain ⟨Lc,Ln,Lr,Ls,Lw,Lo⟩:=L3
      simp only at e1 e2 e3 e4 e5 e6
      subst e1 e2 e3 e4 e5 e6
      obtain ⟨tk,ttb,tnm,tcols,tnames,trow,tsets,twher,tj,tl,tr,ta,torder,tm,tn⟩:=Q
      simp only at htr
      simp only [stC]
      have hsl:=l3.row
      simp only at hsl
      rw [htr] at hsl ⊢
      obtain ⟨W6,hW6⟩:∃ W,w3.alloc (.cells #[.int .i64 tk,.string ttb,.string tnm,.slice o0 tcols.length o00,.slice o1 tnames.length o11,.slice o2 q.length o22,.slice o3 tsets.length o33,.slice o4 twher.length o44,.string tj,.string tl,.string tr,.int .i64 ta,.slice o5 torder.length o55,.int .i64 tm,.int .i64 tn] 29)=W:=⟨_,rfl⟩
      have b6:Below w3.heap.size w3 W6:=by rw [<- hW6];exact (b0R).alloc (jR _) _
      have hb6:W6.heap[w3.heap.size]? = some (.cells #[.int .i64 tk,.string ttb,.string tnm,.slice o0 tcols.length o00,.slice o1 tnames.length o11,.slice o2 q.length o22,.slice o3 tsets.length o33,.slice o4 twher.length o44,.string tj,.string tl,.string tr,.int .i64 ta,.slice o5 torder.length o55,.int .i64 tm,.int .i64 tn] 29 (0,0)):=by rw [<- hW6];exact heap_alloc_new _ _
      have B6:=hid (step2 HB.out (step2 b3 b6))
      have HBX:=hid hb6
      have HRA:=hid (hsl.below b6)
      have HRB:=hid (HROW.out.below (step2 b3 b6))
      have HK6:=hid (HK.out.below (step2 B2.out B6.out))
      clear con b3 b6 hb6 l3 hsl htr
      have z5:=jC HBX.out 5
      simp only [gT,gZ,gS] at z5
      have con:=vrows_any HRA.out HRB.out HK6.out
      rw [cmpR_self] at con
      go_wp2_with fail
      refine con.mono ?_
      rintro e w7 ⟨rfl,b7⟩
      have B7:=hid (step2 B6.out b7)
      have y5:=jC ((b7.block _ (jB HBX.out)).trans HBX.out) 5
      simp only [gT,gZ,gS] at y5
      have HRB7:=hid (HRB.out.below b7)
      have con2:=bytes_any (HRA.out.below b7)
      clear con b7 z5
      go_wp2_with fail
      refine con2.mono ?_
      rintro e w8 ⟨rfl,b8⟩
      have B8:=hid (step2 B7.out b8)
      have con:=bytes_any (HRB7.out.below b8)
      clear con2 b8 y5
      go_wp2_with fail
      refine con.mono ?_
      rintro e w9 ⟨rfl,b9⟩
      have B9:=hid (step2 B8.out b9)
      clear con b9
      go_wp2_with fail
      rw [HPST.out]
      refine ⟨?_,step2 B2.out B9.out⟩
      simp
end
end Go.Proofs.YtieojjngeibnmaaGreatDoor
