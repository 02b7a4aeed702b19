/- value.Right and right: valid values, valid rows. -/
import Derived.Test.YtieojjngeibnmaaGreatDoorZD25
import Derived.Test.YtieojjngeibnmaaGreatDoorZV2
import Derived.Test.YtieojjngeibnmaaGreatDoorZD8
import Derived.Test.YtieojjngeibnmaaGreatDoorZD3
import Derived.Test.YtieojjngeibnmaaGreatDoorZD7
import Derived.Test.YtieojjngeibnmaaGreatDoorZD2
import Derived.Shelf.Small.Strs
import Derived.Test.YtieojjngeibnmaaGreatDoorZD12
set_option linter.unusedVariables false
set_option linter.unusedSimpArgs false
set_option maxRecDepth 100000
set_option maxHeartbeats 64000000
namespace Go.Proofs.YtieojjngeibnmaaGreatDoor
open Go.Lib (hid)
section
open Go.RowKit
theorem known_any (k:Int) (w:World):Calls Tryz.prog 122 #[.int .i64 k] w fun e w'=>e=.returned (.bool (knownB k))/\w=w':=by
 go_enter Tryz.func122,Tryz.ntmps122
 by_cases h1:0<=k
 · by_cases h2:k<=2
   · go_wp2_with fail
     go_ret
     exact ⟨by simp [knownB,h1,h2],rfl⟩
   · go_wp2_with fail
     go_ret
     exact ⟨by simp [knownB,h1,h2],rfl⟩
 · go_wp2_with fail
   go_ret
   exact ⟨by simp [knownB];omega,rfl⟩
theorem vright_any (v:Val) (w:World):Calls Tryz.prog 124 #[.agg #[.int .i64 v.kind,.int .i64 v.n,.string v.s]] w fun e w'=>e=.returned (.bool (rightB v))/\Below w.heap.size w w':=by
 obtain ⟨k,n,s⟩:=v
 show Calls _ _ #[.agg #[.int .i64 k,.int .i64 n,.string s]] _ _
 have hb:Below w.heap.size w (w.alloc (Obj.cells #[.int .i64 k,.int .i64 n,.string s] 60)):=(b0R).alloc (jR _) _
 go_enter Tryz.func124,Tryz.ntmps124
 go_wp2_with fail
 refine (known_any k _).mono ?_
 rintro e w1 ⟨rfl,rfl⟩
 cases hk:knownB k
 · go_wp2_with fail
   go_ret
   exact ⟨by simp [rightB,hk],hb⟩
 · by_cases h2:k=2
   · subst h2
     go_wp2_with fail
     go_ret
     exact ⟨by simp [rightB,hk];omega,hb⟩
   · have h3:(k == 2)=false:=by simp [h2]
     go_wp2_with fail
     go_ret
     exact ⟨by simp [rightB,hk,h2],hb⟩
def rowB (r:List Val):Bool:=r.all rightB && decide (r.length<=6)
theorem rights_any {p:Nat->Prop} {a:Option Addr} {c:Nat} {r:List Val} {w:World} (h:SlV valR p w (.slice a r.length c) r) :
 Calls Tryz.prog 63 #[.slice a r.length c] w fun e w'=>e=.returned (.bool (rowB r))/\Below w.heap.size w w':=by
 obtain ⟨Pst,hPst⟩:∃ Pst,Pst=fun (e:Ending) (w':World)=>e=.returned (.bool (rowB r))/\Below w.heap.size w w':=⟨_,rfl⟩
 have HPST:=hid hPst
 rw [<- hPst]
 have H:=hid h
 obtain ⟨n,hn⟩:∃ n,n=r.length:=⟨_,rfl⟩
 have HN:=hid hn
 have hnn:n<=140737488355328:=by rw [hn];exact h.row.2.2.1
 rw [<- hn]
 clear hPst h hn
 go_enter Tryz.func63,Tryz.ntmps63
 go_wp2_with fail
 go_loopw [7] (fun ii wr=>∃ k:Nat,k<=n/\ii=.int .i64 k/\Hid ((r.take k).all rightB=true)/\Hid (Below w.heap.size w wr)) (fun ii _=>n - (intOf ii).toNat)
 case atStart=>exact ⟨0,Nat.zero_le _,rfl,rfl,Below.refl _ _⟩
 case round =>
  obtain ⟨k,hk,rfl,HA,HB⟩:=hrel
  by_cases hlt:k<n
  · have hkr:k<r.length:=by rw [<- HN.out];exact hlt
    have rx:=(H.out.below HB.out).row.2.2.2
    obtain ⟨b,off,rfl,_,hbl⟩:=rx.addr (by intro e;rw [e] at hkr;cases hkr)
    obtain ⟨c0,c1,c2⟩:=rx.val k hkr
    obtain ⟨⟨xk,xn,xs⟩,hx⟩:∃ x,r[k]=x:=⟨_,rfl⟩
    rw [hx] at c0 c1 c2
    simp only at c0 c1 c2
    have HX:=hid (show r.take (k+1)=r.take k ++ [⟨xk,xn,xs⟩] by rw [List.take_succ_eq_append_getElem hkr,hx])
    have HMEM:=hid (show (⟨xk,xn,xs⟩:Val) ∈ r by rw [<- hx];exact List.getElem_mem hkr)
    obtain ⟨W,hW⟩:∃ W,wr.alloc (.cells #[.int .i64 xk,.int .i64 xn,.string xs] 60)=W:=⟨_,rfl⟩
    have bW:Below wr.heap.size wr W:=by rw [<- hW];exact (b0R).alloc (jR _) _
    have hq:W.heap[wr.heap.size]? = some (.cells #[.int .i64 xk,.int .i64 xn,.string xs] 60 (0,0)):=by rw [<- hW];exact heap_alloc_new _ _
    have z0:=jC hq 0
    have z1:=jC hq 1
    have z2:=jC hq 2
    simp only [gT,gZ,gS] at z0 z1 z2
    have con:=vright_any ⟨xk,xn,xs⟩ W
    have B2:=hid (HB.out.trans (bW.mono HB.out.size))
    clear rx hx hkr bW hq
    go_wp2_with fail
    refine con.mono ?_
    rintro e w3 ⟨rfl,b3⟩
    have B3:=hid (B2.out.trans (b3.mono B2.out.size))
    clear con b3 z0 z1 z2 c0 c1 c2
    cases hr:rightB ⟨xk,xn,xs⟩ with
    | true =>
     have HR:=hid (show (r.take (k+1)).all rightB=true by rw [HX.out,List.all_append,HA.out];simp [hr])
     clear hr
     go_wp2_with fail
     go_roundw
     case rel=>exact ⟨k+1,hlt,by go_num,HR,B3⟩
     case measure=>simp [intOf];omega
    | false =>
     have HR:=hid (show rowB r=false by
      unfold rowB
      rw [show r.all rightB=false from by
       rw [List.all_eq_false]
       exact ⟨_,HMEM.out,by rw [hr];exact Bool.false_ne_true⟩]
      rfl)
     clear hr
     go_wp2_with fail
     rw [HPST.out]
     exact ⟨by rw [HR.out];rfl,B3.out⟩
  · obtain rfl:k=n:=by omega
    have HR:=hid (show rowB r=decide (k<=6) by
     have h1:=HA.out
     rw [HN.out,List.take_length] at h1
     unfold rowB
     rw [h1,HN.out,Bool.true_and])
    go_wp2_with fail
    rw [HPST.out]
    refine ⟨?_,HB.out⟩
    rw [HR.out]
    show Ending.returned (Value.bool (decide ((k:Int)<=6)))=_
    rw [show decide ((k:Int)<=6)=decide (k<=6) from decide_eq_decide.2 (by omega)]
end
section
open Go.RowKit
open Go.Shelf in
def Tryz.lays106_ren:Go.Shelf.Ren:=⟨fun|106=>291|213=>293|265=>294|n=>n,fun|9=>9|3=>3|n=>n,fun|n=>n⟩
theorem Tryz.lays106:Go.Proofs.Lays.n106 Tryz.prog Tryz.lays106_ren:={
 mixed:=by kernel_rfl
 f106:=Tryz.func291.trans (congrArg some (by kernel_rfl))
 f213:=Tryz.func293.trans (congrArg some (by kernel_rfl))
 f265:=Tryz.func294.trans (congrArg some (by kernel_rfl))
 t3:=Tryz.underlying3
 a3:=Tryz.isAgg3
 z3:=Tryz.sizeOf3
 v3:=Tryz.zeroValue3
 t9:=Tryz.underlying9
 a9:=Tryz.isAgg9
 z9:=Tryz.sizeOf9
 v9:=Tryz.zeroValue9 }
def KindsAt (w:World):Prop :=
 w.cell? ⟨0,0,none⟩=some (.func (.func 287) #[] #[])/\w.cell? ⟨0,1,none⟩=some (.func (.func 288) #[] #[])/\w.cell? ⟨0,2,none⟩=some (.func (.func 290) #[] #[])
theorem KindsAt.below {w w':World} (h:KindsAt w) (hb:Below w.heap.size w w'):KindsAt w':=by
 have hl:=World.block_lt_of_cell? w _ h.1
 exact ⟨(hb.cell (p:=⟨0,0,none⟩) hl).trans h.1,(hb.cell (p:=⟨0,1,none⟩) hl).trans h.2.1,(hb.cell (p:=⟨0,2,none⟩) hl).trans h.2.2⟩
def cmpN (a b:Int):Int:=ordI (decide (a<b)) (decide (b<a))
theorem nani_any (x:Int) (w:World):Calls Tryz.prog 123 #[.int .i64 x] w fun e w'=>e=.returned (.bool false)/\w=w':=by
 go_enter Tryz.func123,Tryz.ntmps123
 go_wp2_with fail
 go_ret
 exact ⟨by simp,rfl⟩
theorem nanl_any (x:Int) (w:World):Calls Tryz.prog 292 #[.int .i64 x] w fun e w'=>e=.returned (.bool false)/\w=w':=by
 go_enter Tryz.func292,Tryz.ntmps292
 go_wp2_with fail
 go_ret
 exact ⟨by simp,rfl⟩
theorem cmpi_any (x y:Int) (w:World):Calls Tryz.prog 62 #[.int .i64 x,.int .i64 y] w fun e w'=>e=.returned (.int .i64 (cmpN x y))/\w=w':=by
 unfold cmpN
 rcases (show x<y \/ x=y \/ y<x by omega) with h|rfl|h
 · have h2:¬ y<x:=by omega
   go_enter Tryz.func62,Tryz.ntmps62
   go_wp2_with (go_at_call 123;refine (nani_any _ _).mono ?_;rintro e w1 ⟨rfl,rfl⟩)
   go_ret
   exact ⟨by simp [ordI,h],rfl⟩
 · go_enter Tryz.func62,Tryz.ntmps62
   go_wp2_with (go_at_call 123;refine (nani_any _ _).mono ?_;rintro e w1 ⟨rfl,rfl⟩)
   go_ret
   exact ⟨by simp [ordI],rfl⟩
 · have h2:¬ x<y:=by omega
   go_enter Tryz.func62,Tryz.ntmps62
   go_wp2_with (go_at_call 123;refine (nani_any _ _).mono ?_;rintro e w1 ⟨rfl,rfl⟩)
   go_ret
   exact ⟨by simp [ordI,h,h2],rfl⟩
theorem cmpl_any (x y:Int) (w:World):Calls Tryz.prog 289 #[.int .i64 x,.int .i64 y] w fun e w'=>e=.returned (.int .i64 (cmpN x y))/\w=w':=by
 unfold cmpN
 rcases (show x<y \/ x=y \/ y<x by omega) with h|rfl|h
 · have h2:¬ y<x:=by omega
   go_enter Tryz.func289,Tryz.ntmps289
   go_wp2_with (go_at_call 292;refine (nanl_any _ _).mono ?_;rintro e w1 ⟨rfl,rfl⟩)
   go_ret
   exact ⟨by simp [ordI,h],rfl⟩
 · go_enter Tryz.func289,Tryz.ntmps289
   go_wp2_with (go_at_call 292;refine (nanl_any _ _).mono ?_;rintro e w1 ⟨rfl,rfl⟩)
   go_ret
   exact ⟨by simp [ordI],rfl⟩
 · have h2:¬ x<y:=by omega
   go_enter Tryz.func289,Tryz.ntmps289
   go_wp2_with (go_at_call 292;refine (nanl_any _ _).mono ?_;rintro e w1 ⟨rfl,rfl⟩)
   go_ret
   exact ⟨by simp [ordI,h,h2],rfl⟩
theorem cmpL_lib:∀ a b:List UInt8,Lib.compareBytes a b=cmpL a b
 | [],[]=>rfl
 | [],_ :: _=>rfl
 | _ :: _,[]=>rfl
 | a :: x,b :: y=>by
  rw [Lib.compareBytes,cmpL,cmpL_lib x y]
  by_cases h:a=b
  · subst h
    have:¬ a<a:=UInt8.lt_irrefl a
    simp [this]
  · rw [if_neg h]
    have hne:a.toNat ≠ b.toNat:=fun e=>h (UInt8.toNat.inj e)
    by_cases h1:a<b
    · have:a.toNat<b.toNat:=UInt8.lt_iff_toNat_lt.1 h1
      rw [if_pos h1,if_pos this]
    · have h2:¬ a.toNat<b.toNat:=fun e=>h1 (UInt8.lt_iff_toNat_lt.2 e)
      have h3:b<a:=UInt8.lt_iff_toNat_lt.2 (by omega)
      rw [if_neg h1,if_neg h2,if_pos h3]
theorem scmp_any (a b:ByteArray) (w:World):Calls Tryz.prog 291 #[.string a,.string b] w fun e w'=>e=.returned (.int .i64 (cmpL a.data.toList b.data.toList))/\w=w':=by
 rw [<- cmpL_lib]
 exact (Any.strings_Compare Tryz.lays106 a b w).mono fun _ _ ⟨h,h'⟩=>⟨h,h'.symm⟩
theorem rank_any (k:Int) (w:World):Calls Tryz.prog 121 #[.int .i64 k] w fun e w'=>e=.returned (.int .i64 (placeV k))/\w=w':=by
 have h0:knownB k=false->placeV k=3:=fun h=>by
  unfold knownB at h
  unfold placeV
  rw [if_pos (by simp at h;omega)]
 have h1:knownB k=true->placeV k=k:=fun h=>by
  unfold knownB at h
  unfold placeV
  rw [if_neg (by simp at h;omega)]
 have H0:=hid h0
 have H1:=hid h1
 clear h0 h1
 go_enter Tryz.func121,Tryz.ntmps121
 go_wp2_with fail
 refine (known_any k _).mono ?_
 rintro e w1 ⟨rfl,rfl⟩
 cases hk:knownB k
 · go_wp2_with fail
   go_ret
   exact ⟨by rw [H0.out hk];rfl,rfl⟩
 · go_wp2_with fail
   go_ret
   exact ⟨by rw [H1.out hk];rfl,rfl⟩
theorem k1_any (a b:Val) (w:World):Calls Tryz.prog 287 #[a.enc,b.enc] w fun e w'=>e=.returned (.int .i64 0)/\Below w.heap.size w w':=by
 unfold Val.enc
 go_enter Tryz.func287,Tryz.ntmps287
 go_wp2_with fail
 go_ret
 exact ⟨rfl,((b0R).alloc (jR _) _).alloc (by simp) _⟩
theorem k2_any (a b:Val) (w:World):Calls Tryz.prog 288 #[a.enc,b.enc] w fun e w'=>e=.returned (.int .i64 (cmpN a.n b.n))/\Below w.heap.size w w':=by
 unfold Val.enc
 go_enter Tryz.func288,Tryz.ntmps288
 go_wp2_with (go_at_call 289;refine (cmpl_any _ _ _).mono ?_;rintro e w1 ⟨rfl,rfl⟩)
 go_ret
 exact ⟨rfl,((b0R).alloc (jR _) _).alloc (by simp) _⟩
theorem k3_any (a b:Val) (w:World):Calls Tryz.prog 290 #[a.enc,b.enc] w fun e w'=>e=.returned (.int .i64 (cmpL a.s.data.toList b.s.data.toList))/\Below w.heap.size w w':=by
 unfold Val.enc
 go_enter Tryz.func290,Tryz.ntmps290
 go_wp2_with (go_at_call 291;refine (scmp_any _ _ _).mono ?_;rintro e w1 ⟨rfl,rfl⟩)
 go_ret
 exact ⟨rfl,((b0R).alloc (jR _) _).alloc (by simp) _⟩
theorem vcmp_any (a b:Val) (w:World) (hK:KindsAt w):Calls Tryz.prog 61 #[a.enc,b.enc] w fun e w'=>e=.returned (.int .i64 (cmpV a b))/\Below w.heap.size w w':=by
 have e0:placeV a.kind ≠ placeV b.kind->cmpV a b=cmpN (placeV a.kind) (placeV b.kind):=fun h=>by unfold cmpV cmpN;rw [if_pos h]
 have e1:∀ k,placeV a.kind=placeV b.kind->a.kind=k->0<=k->k<=2->cmpV a b=if k=1 then cmpN a.n b.n else if k=2 then cmpL a.s.data.toList b.s.data.toList else 0:=fun k h hk h0 h1=>by
  have hp:placeV a.kind=k:=by rw [hk];unfold placeV;rw [if_neg (by omega)]
  unfold cmpV cmpN
  rw [if_neg (by simpa using h),hp]
 have e2:placeV a.kind=placeV b.kind->knownB a.kind=false->cmpV a b=0:=fun h hk=>by
  have hp:placeV a.kind=3:=by unfold placeV;unfold knownB at hk;rw [if_pos (by simp at hk;omega)]
  unfold cmpV
  rw [if_neg (by simpa using h),hp]
  simp
 have e3:cmpN (placeV a.kind) (placeV b.kind)=0 ↔ placeV a.kind=placeV b.kind:=by
  unfold cmpN ordI
  by_cases h1:placeV a.kind<placeV b.kind
  · simp [h1];omega
  · by_cases h2:placeV b.kind<placeV a.kind
    · simp [h1,h2];omega
    · simp [h1,h2];omega
 have E0:=hid e0
 have E1:=hid e1
 have E2:=hid e2
 have E3:=hid e3
 have HK:=hid hK
 clear e0 e1 e2 e3 hK
 generalize hC:cmpV a b=C at E0 E1 E2 ⊢
 clear hC
 obtain ⟨ak,an,asx⟩:=a
 obtain ⟨bk,bn,bsx⟩:=b
 obtain ⟨c,hc⟩:∃ c,c=cmpN (placeV ak) (placeV bk):=⟨_,rfl⟩
 simp only at E0 E1 E2 E3
 rw [<- hc] at E0 E3
 have HC:=hid hc.symm
 clear hc
 unfold Val.enc
 simp only
 go_enter Tryz.func61,Tryz.ntmps61
 go_upto_region 1 with (fail)
 generalize hW:World.alloc _ _=W
 have hA:allocs w [_,_]=W:=hW
 have ka:=allocs_get hA 0 rfl
 have kb:=allocs_get hA 1 rfl
 have hb:=allocs_self hA
 simp only [Nat.add_zero] at ka
 have KA:=hid ka
 have KB:=hid kb
 have BW:=hid hb
 have HKW:=hid (HK.out.below hb)
 clear hW hA ka kb hb
 refine wp_region_class (Below W.heap.size W) (by kernel_rfl) (by kernel_rfl) (Below.drew b0R) (fun ne=>?_)
 have q0:=fun z:Wld (Below W.heap.size W)=>jC ((z.good.block _ (jB KA.out)).trans KA.out) 0
 have q1:=fun z:Wld (Below W.heap.size W)=>jC ((z.good.block _ (jB KB.out)).trans KB.out) 0
 simp only [gT,gZ,gS] at q0 q1
 repeat (go_big_quiet_step (first|(go_at_call 121;(with_reducible refine Calls.mono (rank_any _ _) ?_);rintro e w2 ⟨rfl,rfl⟩;exact ⟨rfl,class_below _ b0R (jR _)⟩)|(go_at_call 62;(with_reducible refine Calls.mono (cmpi_any _ _ _) ?_);rintro e w2 ⟨rfl,rfl⟩;exact ⟨congrArg (fun q=>Ending.returned (Value.int .i64 q)) HC.out,class_below _ b0R (jR _)⟩)))
 refine wpQuiet_nil ?_
 intro w1 b1
 clear q0 q1 ne
 have B1:=hid (BW.out.trans (b1.mono BW.out.size))
 have KA1:=cy b1 KA
 have KB1:=cy b1 KB
 have HK1:=hid (HKW.out.below b1)
 clear b1
 by_cases hp:placeV ak=placeV bk
 · have hc0:c=0:=E3.out.2 hp
   have HP:=hid hp
   clear hp
   subst hc0
   have q0:=jC KA1.out 0
   simp only [gT,gZ,gS] at q0
   go_wp2_with fail
   refine (known_any ak _).mono ?_
   rintro e w2 ⟨rfl,rfl⟩
   cases hk:knownB ak
   · have HKN:=hid (E2.out HP.out hk)
     clear hk
     go_wp2_with fail
     go_ret
     exact ⟨by rw [HKN.out];rfl,B1.out⟩
   · have h012:ak=0 \/ ak=1 \/ ak=2:=by unfold knownB at hk;simp at hk;omega
     clear hk
     rcases h012 with rfl|rfl|rfl
     · have HE:=hid (E1.out 0 HP.out rfl (by decide) (by decide))
       go_upto_region 4 with (fail)
       refine wp_region_class (Below w1.heap.size w1) (by kernel_rfl) (by kernel_rfl) (Below.drew b0R) (fun ne=>?_)
       have k0:=fun z:Wld (Below w1.heap.size w1)=>(HK1.out.below z.good).1
       have a0:=fun z:Wld (Below w1.heap.size w1)=>jC ((z.good.block _ (jB KA1.out)).trans KA1.out) 0
       have a1:=fun z:Wld (Below w1.heap.size w1)=>jC ((z.good.block _ (jB KA1.out)).trans KA1.out) 1
       have a2:=fun z:Wld (Below w1.heap.size w1)=>jC ((z.good.block _ (jB KA1.out)).trans KA1.out) 2
       have b0:=fun z:Wld (Below w1.heap.size w1)=>jC ((z.good.block _ (jB KB1.out)).trans KB1.out) 0
       have b1:=fun z:Wld (Below w1.heap.size w1)=>jC ((z.good.block _ (jB KB1.out)).trans KB1.out) 1
       have b2:=fun z:Wld (Below w1.heap.size w1)=>jC ((z.good.block _ (jB KB1.out)).trans KB1.out) 2
       simp only [gT,gZ,gS] at a0 a1 a2 b0 b1 b2
       repeat (go_big_quiet_step ((go_at_call 287;(refine Calls.mono (k1_any ⟨0,an,asx⟩ ⟨bk,bn,bsx⟩ _) ?_);rintro e w2 ⟨rfl,b2⟩;exact ⟨rfl,class_below _ b2 (jR _)⟩)))
       refine wpQuiet_nil ?_
       intro w3 b3
       have B3:=hid (B1.out.trans (b3.mono B1.out.size))
       clear b3 k0 a0 a1 a2 b0 b1 b2 ne q0
       go_wp2_with fail
       go_ret
       exact ⟨by rw [HE.out];rfl,B3.out⟩
     · have HE:=hid (E1.out 1 HP.out rfl (by decide) (by decide))
       go_upto_region 4 with (fail)
       refine wp_region_class (Below w1.heap.size w1) (by kernel_rfl) (by kernel_rfl) (Below.drew b0R) (fun ne=>?_)
       have k0:=fun z:Wld (Below w1.heap.size w1)=>(HK1.out.below z.good).2.1
       have a0:=fun z:Wld (Below w1.heap.size w1)=>jC ((z.good.block _ (jB KA1.out)).trans KA1.out) 0
       have a1:=fun z:Wld (Below w1.heap.size w1)=>jC ((z.good.block _ (jB KA1.out)).trans KA1.out) 1
       have a2:=fun z:Wld (Below w1.heap.size w1)=>jC ((z.good.block _ (jB KA1.out)).trans KA1.out) 2
       have b0:=fun z:Wld (Below w1.heap.size w1)=>jC ((z.good.block _ (jB KB1.out)).trans KB1.out) 0
       have b1:=fun z:Wld (Below w1.heap.size w1)=>jC ((z.good.block _ (jB KB1.out)).trans KB1.out) 1
       have b2:=fun z:Wld (Below w1.heap.size w1)=>jC ((z.good.block _ (jB KB1.out)).trans KB1.out) 2
       simp only [gT,gZ,gS] at a0 a1 a2 b0 b1 b2
       repeat (go_big_quiet_step ((go_at_call 288;(refine Calls.mono (k2_any ⟨1,an,asx⟩ ⟨bk,bn,bsx⟩ _) ?_);rintro e w2 ⟨rfl,b2⟩;exact ⟨rfl,class_below _ b2 (jR _)⟩)))
       refine wpQuiet_nil ?_
       intro w3 b3
       have B3:=hid (B1.out.trans (b3.mono B1.out.size))
       clear b3 k0 a0 a1 a2 b0 b1 b2 ne q0
       go_wp2_with fail
       go_ret
       exact ⟨by rw [HE.out];rfl,B3.out⟩
     · have HE:=hid (E1.out 2 HP.out rfl (by decide) (by decide))
       go_upto_region 4 with (fail)
       refine wp_region_class (Below w1.heap.size w1) (by kernel_rfl) (by kernel_rfl) (Below.drew b0R) (fun ne=>?_)
       have k0:=fun z:Wld (Below w1.heap.size w1)=>(HK1.out.below z.good).2.2
       have a0:=fun z:Wld (Below w1.heap.size w1)=>jC ((z.good.block _ (jB KA1.out)).trans KA1.out) 0
       have a1:=fun z:Wld (Below w1.heap.size w1)=>jC ((z.good.block _ (jB KA1.out)).trans KA1.out) 1
       have a2:=fun z:Wld (Below w1.heap.size w1)=>jC ((z.good.block _ (jB KA1.out)).trans KA1.out) 2
       have b0:=fun z:Wld (Below w1.heap.size w1)=>jC ((z.good.block _ (jB KB1.out)).trans KB1.out) 0
       have b1:=fun z:Wld (Below w1.heap.size w1)=>jC ((z.good.block _ (jB KB1.out)).trans KB1.out) 1
       have b2:=fun z:Wld (Below w1.heap.size w1)=>jC ((z.good.block _ (jB KB1.out)).trans KB1.out) 2
       simp only [gT,gZ,gS] at a0 a1 a2 b0 b1 b2
       repeat (go_big_quiet_step ((go_at_call 290;(refine Calls.mono (k3_any ⟨2,an,asx⟩ ⟨bk,bn,bsx⟩ _) ?_);rintro e w2 ⟨rfl,b2⟩;exact ⟨rfl,class_below _ b2 (jR _)⟩)))
       refine wpQuiet_nil ?_
       intro w3 b3
       have B3:=hid (B1.out.trans (b3.mono B1.out.size))
       clear b3 k0 a0 a1 a2 b0 b1 b2 ne q0
       go_wp2_with fail
       go_ret
       exact ⟨by rw [HE.out];rfl,B3.out⟩
 · have hne:c ≠ 0:=fun e=>hp (E3.out.1 e)
   have h2:(c != 0)=true:=by simpa using hne
   have HE:=hid (E0.out hp)
   clear hp hne
   go_wp2_with fail
   go_ret
   exact ⟨by rw [HE.out];rfl,B1.out⟩
end
section
open Go.RowKit
theorem cmpR_step (A B:List Val) (k:Nat) (hA:k<A.length) (hB:k<B.length):cmpR (A.drop k) (B.drop k)=if cmpV A[k] B[k]=0 then cmpR (A.drop (k+1)) (B.drop (k+1)) else cmpV A[k] B[k]:=by
 rw [List.drop_eq_getElem_cons hA,List.drop_eq_getElem_cons hB,cmpR]
theorem cmpR_end (A B:List Val) (k:Nat) (hA:k<=A.length) (hB:k<=B.length) (h:k=A.length \/ k=B.length):cmpR (A.drop k) (B.drop k)=cmpN (A.length:Int) (B.length:Int):=by
 unfold cmpN
 rcases (show k=A.length/\A.length=B.length \/ k=A.length/\A.length<B.length \/ k=B.length/\B.length<A.length by omega) with ⟨h1,h2⟩|⟨h1,h2⟩|⟨h1,h2⟩
 · rw [List.drop_of_length_le (by omega),List.drop_of_length_le (by omega)]
   simp [cmpR,ordI,h2]
 · rw [List.drop_of_length_le (by omega),List.drop_eq_getElem_cons (by omega)]
   simp [cmpR,ordI,h2]
 · rw [show B.drop k=[] from List.drop_eq_nil_of_le (by omega),List.drop_eq_getElem_cons (by omega)]
   have:¬ A.length<B.length:=by omega
   simp [cmpR,ordI,h2,this]
theorem vrows_any {p q:Nat->Prop} {aa ab:Option Addr} {ca cb:Nat} {A B:List Val} {w:World} (hA:SlV valR p w (.slice aa A.length ca) A) (hB:SlV valR q w (.slice ab B.length cb) B) (hK:KindsAt w) :
 Calls Tryz.prog 26 #[.slice aa A.length ca,.slice ab B.length cb] w fun e w'=>e=.returned (.int .i64 (cmpR A B))/\Below w.heap.size w w':=by
 obtain ⟨_,_,hAl,hA⟩:=hA.row
 obtain ⟨_,_,hBl,hB⟩:=hB.row
 have HA:=hid hA
 have HB:=hid hB
 have HK:=hid hK
 clear hA hB hK
 obtain ⟨m,hm⟩:∃ m,m=min A.length B.length:=⟨_,rfl⟩
 have hmA:m<=A.length:=by omega
 have hmB:m<=B.length:=by omega
 have HM:=hid (show m=A.length \/ m=B.length by omega)
 have z1:min (A.length:Int) (B.length:Int)=(m:Int):=by omega
 clear hm
 go_enter Tryz.func26,Tryz.ntmps26
 go_wp2_with fail
 go_loopw [12] (fun i wr=>∃ k:Nat,k<=m/\i=.int .i64 k/\Hid (cmpR A B=cmpR (A.drop k) (B.drop k))/\Hid (Below w.heap.size w wr)) (fun i _=>m - (intOf i).toNat)
 case atStart=>exact ⟨0,Nat.zero_le _,rfl,rfl,Below.refl _ _⟩
 case round =>
  obtain ⟨k,hk,rfl,HC,HG⟩:=hrel
  by_cases hlt:k<m
  · have hkA:k<A.length:=by omega
    have hkB:k<B.length:=by omega
    have HST:=hid (HC.out.trans (cmpR_step A B k hkA hkB))
    obtain ⟨ba,oa,rfl,_,hba⟩:=HA.out.addr (by intro e;rw [e] at hkA;cases hkA)
    obtain ⟨bb,ob,rfl,_,hbb⟩:=HB.out.addr (by intro e;rw [e] at hkB;cases hkB)
    have X:=HA.out.val k hkA
    have Y:=HB.out.val k hkB
    obtain ⟨x,hx⟩:∃ x,x=A[k]:=⟨_,rfl⟩
    obtain ⟨y,hy⟩:∃ y,y=B[k]:=⟨_,rfl⟩
    rw [<- hx,<- hy] at HST
    rw [<- hx] at X
    rw [<- hy] at Y
    obtain ⟨c,hc⟩:∃ c,cmpV x y=c:=⟨_,rfl⟩
    rw [hc] at HST
    have HCV:=hid hc
    have HX:=hid X
    have HY:=hid Y
    have HKr:=hid (HK.out.below HG.out)
    clear X Y hx hy hc
    go_upto_region 4 with (fail)
    refine wp_region_class (Below wr.heap.size wr) (by kernel_rfl) (by kernel_rfl) (Below.drew b0R) (fun ne=>?_)
    have e0:=fun z:Wld (Below wr.heap.size wr)=>((HG.out.trans (z.good.mono HG.out.size)).cell (p:=⟨ba,oa+k * 3,none⟩) hba).trans HX.out.1
    have e1:=fun z:Wld (Below wr.heap.size wr)=>((HG.out.trans (z.good.mono HG.out.size)).cell (p:=⟨ba,oa+k * 3+1,none⟩) hba).trans HX.out.2.1
    have e2:=fun z:Wld (Below wr.heap.size wr)=>((HG.out.trans (z.good.mono HG.out.size)).cell (p:=⟨ba,oa+k * 3+2,none⟩) hba).trans HX.out.2.2
    have f0:=fun z:Wld (Below wr.heap.size wr)=>((HG.out.trans (z.good.mono HG.out.size)).cell (p:=⟨bb,ob+k * 3,none⟩) hbb).trans HY.out.1
    have f1:=fun z:Wld (Below wr.heap.size wr)=>((HG.out.trans (z.good.mono HG.out.size)).cell (p:=⟨bb,ob+k * 3+1,none⟩) hbb).trans HY.out.2.1
    have f2:=fun z:Wld (Below wr.heap.size wr)=>((HG.out.trans (z.good.mono HG.out.size)).cell (p:=⟨bb,ob+k * 3+2,none⟩) hbb).trans HY.out.2.2
    have HGO:=hid (fun z:Wld (Below wr.heap.size wr)=>HKr.out.below z.good)
    repeat (go_big_quiet_step ((go_at_call 61;(refine Calls.mono (vcmp_any x y _ (HGO.out _)) ?_);rintro e w2 ⟨rfl,b2⟩;exact ⟨congrArg (fun q=>Ending.returned (Value.int .i64 q)) HCV.out,class_below _ b2 (jR _)⟩)))
    refine wpQuiet_nil ?_
    intro w1 b1
    have G1:=hid (HG.out.trans (b1.mono HG.out.size))
    clear b1 e0 e1 e2 f0 f1 f2 ne HGO
    by_cases hc0:c=0
    · subst hc0
      have HN:=hid (HST.out.trans (if_pos rfl))
      go_wp2_with fail
      go_roundw
      case rel=>exact ⟨k+1,by omega,by go_num,HN.out,G1⟩
      case measure=>simp [intOf];omega
    · have hq:(c != 0)=true:=by simpa using hc0
      have HN:=hid (HST.out.trans (if_neg hc0))
      clear hc0
      go_wp2_with fail
      go_ret
      exact ⟨by rw [HN.out];rfl,G1.out⟩
  · have hkm:k=m:=by omega
    subst hkm
    have HN:=hid (HC.out.trans (cmpR_end A B k hmA hmB HM.out))
    go_wp2_with fail
    refine (cmpi_any _ _ _).mono ?_
    rintro e w2 ⟨rfl,rfl⟩
    go_wp2_with fail
    go_ret
    exact ⟨by rw [HN.out];rfl,HG.out⟩
end
end Go.Proofs.YtieojjngeibnmaaGreatDoor
