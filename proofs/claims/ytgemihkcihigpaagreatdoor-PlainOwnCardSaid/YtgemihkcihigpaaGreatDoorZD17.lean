/- value.Compare: it only makes memory. -/
import Derived.Sort.Grow
import Derived.Lib.AppendIntMem
import Derived.Test.YtgemihkcihigpaaGreatDoorZD16
set_option linter.unusedVariables false
set_option linter.unusedSimpArgs false
set_option maxRecDepth 100000
set_option maxHeartbeats 64000000
namespace Go.Proofs.YtgemihkcihigpaaGreatDoor
open Go.Lib (hid)
section
open Go.RowKit Go.Sort Go.Lib
def Gr (w w':World):Prop:=∃ q os,w'=grow (w.drewN q) os
theorem Gr.refl (w:World):Gr w w:=⟨0,#[],by rw [grow_empty];rfl⟩
theorem Gr.trans {a b c:World} (h:Gr a b) (k:Gr b c):Gr a c:=by
 obtain ⟨q,os,rfl⟩:=h
 obtain ⟨q',os',rfl⟩:=k
 refine ⟨q+q',os ++ os',?_⟩
 show grow (grow ((a.drewN q).drewN q') os) os'=_
 rw [grow_grow,World.drewN_drewN]
theorem Gr.alloc {a b:World} (h:Gr a b) (o:Obj):Gr a (b.alloc o):=h.trans ⟨0,#[o],by rw [alloc_eq_grow];rfl⟩
theorem Gr.drewN {a b:World} (h:Gr a b) (n:Nat):Gr a (b.drewN n):=h.trans ⟨n,#[],by rw [grow_empty]⟩
theorem Gr.drew {a b:World} (h:Gr a b):Gr a b.drew:=h.drewN 1
theorem Gr.below {a b:World} (h:Gr a b):Below a.heap.size a b:=by
 obtain ⟨q,os,rfl⟩:=h
 exact below_grow _ _ (jR _) q os
theorem gr_allocs:∀ {os:List Obj} {w W:World},allocs w os=W->Gr w W
 | [],w,W,h=>h ▸ Gr.refl _
 | o :: r,w,W,h=>((Gr.refl w).alloc o).trans (gr_allocs (os:=r) h)
theorem class_gr {w0:World} (x:Wld (Gr w0)) {w1:World} (h:Gr x.val w1):∃ y:Wld (Gr w0),w1=y.val:=⟨⟨w1,x.good.trans h⟩,rfl⟩
theorem k1_gr (a b:Val) (w:World):Calls Tryz.prog 197 #[a.enc,b.enc] w fun e w'=>e=.returned (.int .i64 0)/\Gr w w':=by
 unfold Val.enc
 go_enter Tryz.func197,Tryz.ntmps197
 go_wp2_with fail
 go_ret
 exact ⟨rfl,((Gr.refl _).alloc _).alloc _⟩
theorem k2_gr (a b:Val) (w:World):Calls Tryz.prog 198 #[a.enc,b.enc] w fun e w'=>e=.returned (.int .i64 (cmpN a.n b.n))/\Gr w w':=by
 unfold Val.enc
 go_enter Tryz.func198,Tryz.ntmps198
 go_wp2_with (go_at_call 199;refine (cmpl_any _ _ _).mono ?_;rintro e w1 ⟨rfl,rfl⟩)
 go_ret
 exact ⟨rfl,((Gr.refl _).alloc _).alloc _⟩
theorem k3_gr (a b:Val) (w:World):Calls Tryz.prog 200 #[a.enc,b.enc] w fun e w'=>e=.returned (.int .i64 (cmpL a.s.data.toList b.s.data.toList))/\Gr w w':=by
 unfold Val.enc
 go_enter Tryz.func200,Tryz.ntmps200
 go_wp2_with (go_at_call 201;refine (scmp_any _ _ _).mono ?_;rintro e w1 ⟨rfl,rfl⟩)
 go_ret
 exact ⟨rfl,((Gr.refl _).alloc _).alloc _⟩
theorem vcmp_gr (a b:Val) (w:World) (hK:KindsAt w):Calls Tryz.prog 24 #[a.enc,b.enc] w fun e w'=>e=.returned (.int .i64 (cmpV a b))/\Gr w w':=by
 have e0:placeV a.kind ≠ placeV b.kind->cmpV a b=cmpN (placeV a.kind) (placeV b.kind):=fun h=>by unfold cmpV cmpN;rw [if_pos h]
 have e1:∀ k,placeV a.kind=placeV b.kind->a.kind=k->0<=k->k<=2->cmpV a b=if k=1 then cmpN a.n b.n else if k=2 then cmpL a.s.data.toList b.s.data.toList else 0:=fun k h hk h0 h1=>by
  have hp:placeV a.kind=k:=by rw [hk];unfold placeV;rw [if_neg (by omega)]
  unfold cmpV cmpN
  rw [if_neg (by simpa using h),hp]
 have e2:placeV a.kind=placeV b.kind->knownB a.kind=false->cmpV a b=0:=fun h hk=>by
  have hp:placeV a.kind=3:=by unfold placeV;unfold knownB at hk;rw [if_pos (by simp at hk;omega)]
  unfold cmpV
  rw [if_neg (by simpa using h),hp]
  simp
 have e3:cmpN (placeV a.kind) (placeV b.kind)=0 ↔ placeV a.kind=placeV b.kind:=by
  unfold cmpN ordI
  by_cases h1:placeV a.kind<placeV b.kind
  · simp [h1];omega
  · by_cases h2:placeV b.kind<placeV a.kind
    · simp [h1,h2];omega
    · simp [h1,h2];omega
 have E0:=hid e0
 have E1:=hid e1
 have E2:=hid e2
 have E3:=hid e3
 have HK:=hid hK
 clear e0 e1 e2 e3 hK
 generalize hC:cmpV a b=C at E0 E1 E2 ⊢
 clear hC
 obtain ⟨ak,an,asx⟩:=a
 obtain ⟨bk,bn,bsx⟩:=b
 obtain ⟨c,hc⟩:∃ c,c=cmpN (placeV ak) (placeV bk):=⟨_,rfl⟩
 simp only at E0 E1 E2 E3
 rw [<- hc] at E0 E3
 have HC:=hid hc.symm
 clear hc
 unfold Val.enc
 simp only
 go_enter Tryz.func24,Tryz.ntmps24
 go_upto_region 1 with (fail)
 generalize hW:World.alloc _ _=W
 have hA:allocs w [_,_]=W:=hW
 have ka:=allocs_get hA 0 rfl
 have kb:=allocs_get hA 1 rfl
 have hb:=gr_allocs hA
 simp only [Nat.add_zero] at ka
 have KA:=hid ka
 have KB:=hid kb
 have BW:=hid hb
 have HKW:=hid (HK.out.below hb.below)
 clear hW hA ka kb hb
 refine wp_region_class (Gr W) (by kernel_rfl) (by kernel_rfl) (Gr.refl _).drew (fun ne=>?_)
 have q0:=fun z:Wld (Gr W)=>jC ((z.good.below.block _ (jB KA.out)).trans KA.out) 0
 have q1:=fun z:Wld (Gr W)=>jC ((z.good.below.block _ (jB KB.out)).trans KB.out) 0
 simp only [gT,gZ,gS] at q0 q1
 repeat (go_big_quiet_step (first|(go_at_call 54;(with_reducible refine Calls.mono (rank_any _ _) ?_);rintro e w2 ⟨rfl,rfl⟩;exact ⟨rfl,class_gr _ (Gr.refl _)⟩)|(go_at_call 53;(with_reducible refine Calls.mono (cmpi_any _ _ _) ?_);rintro e w2 ⟨rfl,rfl⟩;exact ⟨congrArg (fun q=>Ending.returned (Value.int .i64 q)) HC.out,class_gr _ (Gr.refl _)⟩)))
 refine wpQuiet_nil ?_
 intro w1 b1
 clear q0 q1 ne
 have B1:=hid (BW.out.trans b1)
 have KA1:=cy b1.below KA
 have KB1:=cy b1.below KB
 have HK1:=hid (HKW.out.below b1.below)
 clear b1
 by_cases hp:placeV ak=placeV bk
 · have hc0:c=0:=E3.out.2 hp
   have HP:=hid hp
   clear hp
   subst hc0
   have q0:=jC KA1.out 0
   simp only [gT,gZ,gS] at q0
   go_wp2_with fail
   refine (known_any ak _).mono ?_
   rintro e w2 ⟨rfl,rfl⟩
   cases hk:knownB ak
   · have HKN:=hid (E2.out HP.out hk)
     clear hk
     go_wp2_with fail
     go_ret
     exact ⟨by rw [HKN.out];rfl,B1.out⟩
   · have h012:ak=0 \/ ak=1 \/ ak=2:=by unfold knownB at hk;simp at hk;omega
     clear hk
     rcases h012 with rfl|rfl|rfl
     · have HE:=hid (E1.out 0 HP.out rfl (by decide) (by decide))
       go_upto_region 4 with (fail)
       refine wp_region_class (Gr w1) (by kernel_rfl) (by kernel_rfl) (Gr.refl _).drew (fun ne=>?_)
       have k0:=fun z:Wld (Gr w1)=>(HK1.out.below z.good.below).1
       have a0:=fun z:Wld (Gr w1)=>jC ((z.good.below.block _ (jB KA1.out)).trans KA1.out) 0
       have a1:=fun z:Wld (Gr w1)=>jC ((z.good.below.block _ (jB KA1.out)).trans KA1.out) 1
       have a2:=fun z:Wld (Gr w1)=>jC ((z.good.below.block _ (jB KA1.out)).trans KA1.out) 2
       have b0:=fun z:Wld (Gr w1)=>jC ((z.good.below.block _ (jB KB1.out)).trans KB1.out) 0
       have b1:=fun z:Wld (Gr w1)=>jC ((z.good.below.block _ (jB KB1.out)).trans KB1.out) 1
       have b2:=fun z:Wld (Gr w1)=>jC ((z.good.below.block _ (jB KB1.out)).trans KB1.out) 2
       simp only [gT,gZ,gS] at a0 a1 a2 b0 b1 b2
       repeat (go_big_quiet_step ((go_at_call 197;(refine Calls.mono (k1_gr ⟨0,an,asx⟩ ⟨bk,bn,bsx⟩ _) ?_);rintro e w2 ⟨rfl,b2⟩;exact ⟨rfl,class_gr _ b2⟩)))
       refine wpQuiet_nil ?_
       intro w3 b3
       have B3:=hid (B1.out.trans b3)
       clear b3 k0 a0 a1 a2 b0 b1 b2 ne q0
       go_wp2_with fail
       go_ret
       exact ⟨by rw [HE.out];rfl,B3.out⟩
     · have HE:=hid (E1.out 1 HP.out rfl (by decide) (by decide))
       go_upto_region 4 with (fail)
       refine wp_region_class (Gr w1) (by kernel_rfl) (by kernel_rfl) (Gr.refl _).drew (fun ne=>?_)
       have k0:=fun z:Wld (Gr w1)=>(HK1.out.below z.good.below).2.1
       have a0:=fun z:Wld (Gr w1)=>jC ((z.good.below.block _ (jB KA1.out)).trans KA1.out) 0
       have a1:=fun z:Wld (Gr w1)=>jC ((z.good.below.block _ (jB KA1.out)).trans KA1.out) 1
       have a2:=fun z:Wld (Gr w1)=>jC ((z.good.below.block _ (jB KA1.out)).trans KA1.out) 2
       have b0:=fun z:Wld (Gr w1)=>jC ((z.good.below.block _ (jB KB1.out)).trans KB1.out) 0
       have b1:=fun z:Wld (Gr w1)=>jC ((z.good.below.block _ (jB KB1.out)).trans KB1.out) 1
       have b2:=fun z:Wld (Gr w1)=>jC ((z.good.below.block _ (jB KB1.out)).trans KB1.out) 2
       simp only [gT,gZ,gS] at a0 a1 a2 b0 b1 b2
       repeat (go_big_quiet_step ((go_at_call 198;(refine Calls.mono (k2_gr ⟨1,an,asx⟩ ⟨bk,bn,bsx⟩ _) ?_);rintro e w2 ⟨rfl,b2⟩;exact ⟨rfl,class_gr _ b2⟩)))
       refine wpQuiet_nil ?_
       intro w3 b3
       have B3:=hid (B1.out.trans b3)
       clear b3 k0 a0 a1 a2 b0 b1 b2 ne q0
       go_wp2_with fail
       go_ret
       exact ⟨by rw [HE.out];rfl,B3.out⟩
     · have HE:=hid (E1.out 2 HP.out rfl (by decide) (by decide))
       go_upto_region 4 with (fail)
       refine wp_region_class (Gr w1) (by kernel_rfl) (by kernel_rfl) (Gr.refl _).drew (fun ne=>?_)
       have k0:=fun z:Wld (Gr w1)=>(HK1.out.below z.good.below).2.2
       have a0:=fun z:Wld (Gr w1)=>jC ((z.good.below.block _ (jB KA1.out)).trans KA1.out) 0
       have a1:=fun z:Wld (Gr w1)=>jC ((z.good.below.block _ (jB KA1.out)).trans KA1.out) 1
       have a2:=fun z:Wld (Gr w1)=>jC ((z.good.below.block _ (jB KA1.out)).trans KA1.out) 2
       have b0:=fun z:Wld (Gr w1)=>jC ((z.good.below.block _ (jB KB1.out)).trans KB1.out) 0
       have b1:=fun z:Wld (Gr w1)=>jC ((z.good.below.block _ (jB KB1.out)).trans KB1.out) 1
       have b2:=fun z:Wld (Gr w1)=>jC ((z.good.below.block _ (jB KB1.out)).trans KB1.out) 2
       simp only [gT,gZ,gS] at a0 a1 a2 b0 b1 b2
       repeat (go_big_quiet_step ((go_at_call 200;(refine Calls.mono (k3_gr ⟨2,an,asx⟩ ⟨bk,bn,bsx⟩ _) ?_);rintro e w2 ⟨rfl,b2⟩;exact ⟨rfl,class_gr _ b2⟩)))
       refine wpQuiet_nil ?_
       intro w3 b3
       have B3:=hid (B1.out.trans b3)
       clear b3 k0 a0 a1 a2 b0 b1 b2 ne q0
       go_wp2_with fail
       go_ret
       exact ⟨by rw [HE.out];rfl,B3.out⟩
 · have hne:c ≠ 0:=fun e=>hp (E3.out.1 e)
   have h2:(c != 0)=true:=by simpa using hne
   have HE:=hid (E0.out hp)
   clear hp hne
   go_wp2_with fail
   go_ret
   exact ⟨by rw [HE.out];rfl,B1.out⟩
end
section
open Go.RowKit
theorem cmpR_step (A B:List Val) (k:Nat) (hA:k<A.length) (hB:k<B.length):cmpR (A.drop k) (B.drop k)=if cmpV A[k] B[k]=0 then cmpR (A.drop (k+1)) (B.drop (k+1)) else cmpV A[k] B[k]:=by
 rw [List.drop_eq_getElem_cons hA,List.drop_eq_getElem_cons hB,cmpR]
theorem cmpR_end (A B:List Val) (k:Nat) (hA:k<=A.length) (hB:k<=B.length) (h:k=A.length \/ k=B.length):cmpR (A.drop k) (B.drop k)=cmpN (A.length:Int) (B.length:Int):=by
 unfold cmpN
 rcases (show k=A.length/\A.length=B.length \/ k=A.length/\A.length<B.length \/ k=B.length/\B.length<A.length by omega) with ⟨h1,h2⟩|⟨h1,h2⟩|⟨h1,h2⟩
 · rw [List.drop_of_length_le (by omega),List.drop_of_length_le (by omega)]
   simp [cmpR,ordI,h2]
 · rw [List.drop_of_length_le (by omega),List.drop_eq_getElem_cons (by omega)]
   simp [cmpR,ordI,h2]
 · rw [show B.drop k=[] from List.drop_eq_nil_of_le (by omega),List.drop_eq_getElem_cons (by omega)]
   have:¬ A.length<B.length:=by omega
   simp [cmpR,ordI,h2,this]
theorem rows_gr {p q:Nat->Prop} {aa ab:Option Addr} {ca cb:Nat} {A B:List Val} {w:World} (hA:SlV valR p w (.slice aa A.length ca) A) (hB:SlV valR q w (.slice ab B.length cb) B) (hK:KindsAt w) :
 Calls Tryz.prog 25 #[.slice aa A.length ca,.slice ab B.length cb] w fun e w'=>e=.returned (.int .i64 (cmpR A B))/\Gr w w':=by
 obtain ⟨_,_,hAl,hA⟩:=hA.row
 obtain ⟨_,_,hBl,hB⟩:=hB.row
 have HA:=hid hA
 have HB:=hid hB
 have HK:=hid hK
 clear hA hB hK
 obtain ⟨m,hm⟩:∃ m,m=min A.length B.length:=⟨_,rfl⟩
 have hmA:m<=A.length:=by omega
 have hmB:m<=B.length:=by omega
 have HM:=hid (show m=A.length \/ m=B.length by omega)
 have z1:min (A.length:Int) (B.length:Int)=(m:Int):=by omega
 clear hm
 go_enter Tryz.func25,Tryz.ntmps25
 go_wp2_with fail
 go_loopw [12] (fun i wr=>∃ k:Nat,k<=m/\i=.int .i64 k/\Hid (cmpR A B=cmpR (A.drop k) (B.drop k))/\Hid (Gr w wr)) (fun i _=>m - (intOf i).toNat)
 case atStart=>exact ⟨0,Nat.zero_le _,rfl,rfl,Gr.refl _⟩
 case round =>
  obtain ⟨k,hk,rfl,HC,HG⟩:=hrel
  by_cases hlt:k<m
  · have hkA:k<A.length:=by omega
    have hkB:k<B.length:=by omega
    have HST:=hid (HC.out.trans (cmpR_step A B k hkA hkB))
    obtain ⟨ba,oa,rfl,_,hba⟩:=HA.out.addr (by intro e;rw [e] at hkA;cases hkA)
    obtain ⟨bb,ob,rfl,_,hbb⟩:=HB.out.addr (by intro e;rw [e] at hkB;cases hkB)
    have X:=HA.out.val k hkA
    have Y:=HB.out.val k hkB
    obtain ⟨x,hx⟩:∃ x,x=A[k]:=⟨_,rfl⟩
    obtain ⟨y,hy⟩:∃ y,y=B[k]:=⟨_,rfl⟩
    rw [<- hx,<- hy] at HST
    rw [<- hx] at X
    rw [<- hy] at Y
    obtain ⟨c,hc⟩:∃ c,cmpV x y=c:=⟨_,rfl⟩
    rw [hc] at HST
    have HCV:=hid hc
    have HX:=hid X
    have HY:=hid Y
    have HKr:=hid (HK.out.below HG.out.below)
    clear X Y hx hy hc
    go_upto_region 4 with (fail)
    refine wp_region_class (Gr wr) (by kernel_rfl) (by kernel_rfl) (Gr.refl _).drew (fun ne=>?_)
    have e0:=fun z:Wld (Gr wr)=>((HG.out.trans z.good).below.cell (p:=⟨ba,oa+k * 3,none⟩) hba).trans HX.out.1
    have e1:=fun z:Wld (Gr wr)=>((HG.out.trans z.good).below.cell (p:=⟨ba,oa+k * 3+1,none⟩) hba).trans HX.out.2.1
    have e2:=fun z:Wld (Gr wr)=>((HG.out.trans z.good).below.cell (p:=⟨ba,oa+k * 3+2,none⟩) hba).trans HX.out.2.2
    have f0:=fun z:Wld (Gr wr)=>((HG.out.trans z.good).below.cell (p:=⟨bb,ob+k * 3,none⟩) hbb).trans HY.out.1
    have f1:=fun z:Wld (Gr wr)=>((HG.out.trans z.good).below.cell (p:=⟨bb,ob+k * 3+1,none⟩) hbb).trans HY.out.2.1
    have f2:=fun z:Wld (Gr wr)=>((HG.out.trans z.good).below.cell (p:=⟨bb,ob+k * 3+2,none⟩) hbb).trans HY.out.2.2
    have HGO:=hid (fun z:Wld (Gr wr)=>HKr.out.below z.good.below)
    repeat (go_big_quiet_step ((go_at_call 24;(refine Calls.mono (vcmp_gr x y _ (HGO.out _)) ?_);rintro e w2 ⟨rfl,b2⟩;exact ⟨congrArg (fun q=>Ending.returned (Value.int .i64 q)) HCV.out,class_gr _ b2⟩)))
    refine wpQuiet_nil ?_
    intro w1 b1
    have G1:=hid (HG.out.trans b1)
    clear b1 e0 e1 e2 f0 f1 f2 ne HGO
    by_cases hc0:c=0
    · subst hc0
      have HN:=hid (HST.out.trans (if_pos rfl))
      go_wp2_with fail
      go_roundw
      case rel=>exact ⟨k+1,by omega,by go_num,HN.out,G1⟩
      case measure=>simp [intOf];omega
    · have hq:(c != 0)=true:=by simpa using hc0
      have HN:=hid (HST.out.trans (if_neg hc0))
      clear hc0
      go_wp2_with fail
      go_ret
      exact ⟨by rw [HN.out];rfl,G1.out⟩
  · have hkm:k=m:=by omega
    subst hkm
    have HN:=hid (HC.out.trans (cmpR_end A B k hmA hmB HM.out))
    go_wp2_with fail
    refine (cmpi_any _ _ _).mono ?_
    rintro e w2 ⟨rfl,rfl⟩
    go_wp2_with fail
    go_ret
    exact ⟨by rw [HN.out];rfl,HG.out⟩
end
section
open Go.RowKit
def atV (r:List Val) (n:Int):Val:=if 0<=n/\n<r.length then r.getD n.toNat val0 else val0
def cmpBy (A B:List Val):List Int->Int
 | []=>cmpR A B
 | n :: ns=>if cmpV (atV A n) (atV B n)=0 then cmpBy A B ns else cmpV (atV A n) (atV B n)
theorem at_gr {p:Nat->Prop} {aa:Option Addr} {ca:Nat} {A:List Val} {w:World} (hA:SlV valR p w (.slice aa A.length ca) A) (n:Int) :
 Calls Tryz.prog 56 #[.slice aa A.length ca,.int .i64 n] w fun e w'=>e=.returned (.agg #[.int .i64 (atV A n).kind,.int .i64 (atV A n).n,.string (atV A n).s])/\Gr w w':=by
 obtain ⟨_,_,hAl,hA⟩:=hA.row
 have HA:=hid hA
 clear hA
 rcases (show n<0 \/ (0<=n/\(A.length:Int)<=n) \/ (0<=n/\n<A.length) by omega) with h|⟨h1,h2⟩|⟨h1,h2⟩
 · have e:atV A n=val0:=by unfold atV;rw [if_neg (by omega)]
   rw [e]
   have z:¬ 0<=n:=by omega
   clear e
   go_enter Tryz.func56,Tryz.ntmps56
   go_wp2_with fail
   refine bodyPost_ret (v:=.agg #[.int .i64 0,.int .i64 0,.string noStr]) (by simp [results,Tryz.results56,go_sem];try rfl) rfl ⟨rfl,(Gr.refl _).alloc _⟩
 · have e:atV A n=val0:=by unfold atV;rw [if_neg (by omega)]
   rw [e]
   have z:¬ n<(A.length:Int):=by omega
   clear e
   go_enter Tryz.func56,Tryz.ntmps56
   go_wp2_with fail
   refine bodyPost_ret (v:=.agg #[.int .i64 0,.int .i64 0,.string noStr]) (by simp [results,Tryz.results56,go_sem];try rfl) rfl ⟨rfl,(Gr.refl _).alloc _⟩
 · obtain ⟨k,rfl⟩:∃ k:Nat,n=k:=⟨n.toNat,by omega⟩
   have hk:k<A.length:=by omega
   have e:atV A k=A[k]:=by unfold atV;rw [if_pos ⟨h1,h2⟩,Int.toNat_natCast,List.getD_eq_getElem?_getD,List.getElem?_eq_getElem hk];rfl
   rw [e]
   obtain ⟨ba,oa,rfl,_,hba⟩:=HA.out.addr (by intro e;rw [e] at hk;cases hk)
   obtain ⟨x0,x1,x2⟩:=HA.out.val k hk
   clear e
   go_enter Tryz.func56,Tryz.ntmps56
   go_wp2_with fail
   refine bodyPost_ret (v:=.agg #[.int .i64 A[k].kind,.int .i64 A[k].n,.string A[k].s]) (by simp [results,Tryz.results56,go_sem];try rfl) rfl ⟨rfl,(Gr.refl _).alloc _⟩
theorem s3_gr {p q r:Nat->Prop} {aa ab ay:Option Addr} {ca cb cy pb pt:Nat} {A B:List Val} {N:List Int} {w:World} (hA:SlV valR p w (.slice aa A.length ca) A) (hB:SlV valR q w (.slice ab B.length cb) B) (hN:SlV intR r w (.slice ay N.length cy) N)
 (hpb:w.cell? ⟨pb,0,none⟩=some (.slice ay N.length cy)) (hpt:w.cell? ⟨pt,0,none⟩=some (.func (.func 56) #[] #[])) (hK:KindsAt w) :
 Calls Tryz.prog 61 #[.slice aa A.length ca,.slice ab B.length cb,.pointer (some ⟨pb,0,none⟩),.pointer (some ⟨pt,0,none⟩)] w fun e w'=>e=.returned (.int .i64 (cmpBy A B N))/\Gr w w':=by
 have HA:=hid hA
 have HB:=hid hB
 obtain ⟨_,_,hNl,hN⟩:=hN.row
 have HN:=hid hN
 have HK:=hid hK
 have HPB:=hid hpb
 have HPT:=hid hpt
 have hlb:=World.block_lt_of_cell? w _ hpb
 have hlt':=World.block_lt_of_cell? w _ hpt
 clear hA hB hN hK hpt
 go_enter Tryz.func61,Tryz.ntmps61
 go_wp2_with fail
 clear hpb
 go_loopw [12] (fun i wr=>∃ k:Nat,k<=N.length/\i=.int .i64 k/\Hid (cmpBy A B N=cmpBy A B (N.drop k))/\Hid (Gr w wr)) (fun i _=>N.length - (intOf i).toNat)
 case atStart=>exact ⟨0,Nat.zero_le _,rfl,rfl,Gr.refl _⟩
 case round =>
  obtain ⟨k,hk,rfl,HC,HG⟩:=hrel
  by_cases hlt:k<N.length
  · obtain ⟨bn,on,rfl,_,hbn⟩:=HN.out.addr (by intro e;rw [e] at hlt;cases hlt)
    have hx:=(HG.out.below.cell (p:=⟨bn,on+k,none⟩) hbn).trans (HN.out.int k hlt)
    have hst:=HC.out
    rw [List.drop_eq_getElem_cons hlt,cmpBy] at hst
    obtain ⟨n,hn⟩:∃ n,n=N[k]:=⟨_,rfl⟩
    rw [<- hn] at hx hst
    obtain ⟨x,hxx⟩:∃ x,x=atV A n:=⟨_,rfl⟩
    obtain ⟨y,hyy⟩:∃ y,y=atV B n:=⟨_,rfl⟩
    rw [<- hxx,<- hyy] at hst
    obtain ⟨c,hc⟩:∃ c,cmpV x y=c:=⟨_,rfl⟩
    rw [hc] at hst
    have HST:=hid hst
    have HCV:=hid hc
    have HXX:=hid hxx.symm
    have HYY:=hid hyy.symm
    clear hn hst hxx hyy hc
    go_upto_region 4 with (fail)
    clear hx
    refine wp_region_class (Gr wr) (by kernel_rfl) (by kernel_rfl) (Gr.refl _).drew (fun ne=>?_)
    have e0:=fun z:Wld (Gr wr)=>((HG.out.trans z.good).below.cell (p:=⟨pt,0,none⟩) hlt').trans HPT.out
    have HGO:=hid (fun z:Wld (Gr wr)=>HK.out.below (HG.out.trans z.good).below)
    have HGA:=hid (fun z:Wld (Gr wr)=>HA.out.below (HG.out.trans z.good).below)
    have HGB:=hid (fun z:Wld (Gr wr)=>HB.out.below (HG.out.trans z.good).below)
    repeat (go_big_quiet_step (first|(go_at_call 56;(with_reducible refine Calls.mono (at_gr (HGA.out _) n) ?_);rintro e w2 ⟨rfl,b2⟩;exact ⟨congrArg (fun v:Val=>Ending.returned (.agg #[.int .i64 v.kind,.int .i64 v.n,.string v.s])) HXX.out,class_gr _ b2⟩)|(go_at_call 56;(with_reducible refine Calls.mono (at_gr (HGB.out _) n) ?_);rintro e w2 ⟨rfl,b2⟩;exact ⟨congrArg (fun v:Val=>Ending.returned (.agg #[.int .i64 v.kind,.int .i64 v.n,.string v.s])) HYY.out,class_gr _ b2⟩)|(go_at_call 24;(refine Calls.mono (vcmp_gr x y _ (HGO.out _)) ?_);rintro e w2 ⟨rfl,b2⟩;exact ⟨congrArg (fun q=>Ending.returned (Value.int .i64 q)) HCV.out,class_gr _ b2⟩)))
    refine wpQuiet_nil ?_
    intro w1 b1
    have G1:=hid (HG.out.trans b1)
    clear b1 e0 HGO HGA HGB ne
    by_cases hc0:c=0
    · subst hc0
      have HN:=hid (HST.out.trans (if_pos rfl))
      go_wp2_with fail
      go_roundw
      case rel=>exact ⟨k+1,by omega,by go_num,HN.out,G1⟩
      case measure=>simp [intOf];omega
    · have hq:(c != 0)=true:=by simpa using hc0
      have HN:=hid (HST.out.trans (if_neg hc0))
      clear hc0
      go_wp2_with fail
      go_ret
      exact ⟨by rw [HN.out];rfl,G1.out⟩
  · have hkm:k=N.length:=by omega
    have hst:=HC.out
    rw [hkm,List.drop_length,cmpBy] at hst
    have HN:=hid hst
    clear hst hkm
    go_wp2_with fail
    refine (rows_gr (HA.out.below HG.out.below) (HB.out.below HG.out.below) (HK.out.below HG.out.below)).mono ?_
    rintro e w2 ⟨rfl,b2⟩
    go_wp2_with fail
    go_ret
    exact ⟨by rw [HN.out];rfl,HG.out.trans b2⟩
end
section
open Go.RowKit
def FineR (r:List Val):Prop:=∀ v ∈ r,v.s.size<=140737488355328
end
end Go.Proofs.YtgemihkcihigpaaGreatDoor
