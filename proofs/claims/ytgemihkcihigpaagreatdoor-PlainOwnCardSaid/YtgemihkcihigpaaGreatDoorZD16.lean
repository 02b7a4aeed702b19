/- value.Compare: what it computes. -/
import Derived.Test.YtgemihkcihigpaaGreatDoorZD13
import Derived.Test.YtgemihkcihigpaaGreatDoorZD14
set_option linter.unusedVariables false
set_option linter.unusedSimpArgs false
set_option maxRecDepth 100000
set_option maxHeartbeats 64000000
namespace Go.Proofs.YtgemihkcihigpaaGreatDoor
open Go.Lib (hid)
section
open Go.RowKit
def KindsAt (w:World):Prop :=
 w.cell? ⟨0,0,none⟩=some (.func (.func 197) #[] #[])/\w.cell? ⟨0,1,none⟩=some (.func (.func 198) #[] #[])/\w.cell? ⟨0,2,none⟩=some (.func (.func 200) #[] #[])
theorem KindsAt.below {w w':World} (h:KindsAt w) (hb:Below w.heap.size w w'):KindsAt w':=by
 have hl:=World.block_lt_of_cell? w _ h.1
 exact ⟨(hb.cell (p:=⟨0,0,none⟩) hl).trans h.1,(hb.cell (p:=⟨0,1,none⟩) hl).trans h.2.1,(hb.cell (p:=⟨0,2,none⟩) hl).trans h.2.2⟩
def cmpN (a b:Int):Int:=ordI (decide (a<b)) (decide (b<a))
theorem nani_any (x:Int) (w:World):Calls Tryz.prog 116 #[.int .i64 x] w fun e w'=>e=.returned (.bool false)/\w=w':=by
 go_enter Tryz.func116,Tryz.ntmps116
 go_wp2_with fail
 go_ret
 exact ⟨by simp,rfl⟩
theorem nanl_any (x:Int) (w:World):Calls Tryz.prog 202 #[.int .i64 x] w fun e w'=>e=.returned (.bool false)/\w=w':=by
 go_enter Tryz.func202,Tryz.ntmps202
 go_wp2_with fail
 go_ret
 exact ⟨by simp,rfl⟩
theorem cmpi_any (x y:Int) (w:World):Calls Tryz.prog 53 #[.int .i64 x,.int .i64 y] w fun e w'=>e=.returned (.int .i64 (cmpN x y))/\w=w':=by
 unfold cmpN
 rcases (show x<y \/ x=y \/ y<x by omega) with h|rfl|h
 · have h2:¬ y<x:=by omega
   go_enter Tryz.func53,Tryz.ntmps53
   go_wp2_with (go_at_call 116;refine (nani_any _ _).mono ?_;rintro e w1 ⟨rfl,rfl⟩)
   go_ret
   exact ⟨by simp [ordI,h],rfl⟩
 · go_enter Tryz.func53,Tryz.ntmps53
   go_wp2_with (go_at_call 116;refine (nani_any _ _).mono ?_;rintro e w1 ⟨rfl,rfl⟩)
   go_ret
   exact ⟨by simp [ordI],rfl⟩
 · have h2:¬ x<y:=by omega
   go_enter Tryz.func53,Tryz.ntmps53
   go_wp2_with (go_at_call 116;refine (nani_any _ _).mono ?_;rintro e w1 ⟨rfl,rfl⟩)
   go_ret
   exact ⟨by simp [ordI,h,h2],rfl⟩
theorem cmpl_any (x y:Int) (w:World):Calls Tryz.prog 199 #[.int .i64 x,.int .i64 y] w fun e w'=>e=.returned (.int .i64 (cmpN x y))/\w=w':=by
 unfold cmpN
 rcases (show x<y \/ x=y \/ y<x by omega) with h|rfl|h
 · have h2:¬ y<x:=by omega
   go_enter Tryz.func199,Tryz.ntmps199
   go_wp2_with (go_at_call 202;refine (nanl_any _ _).mono ?_;rintro e w1 ⟨rfl,rfl⟩)
   go_ret
   exact ⟨by simp [ordI,h],rfl⟩
 · go_enter Tryz.func199,Tryz.ntmps199
   go_wp2_with (go_at_call 202;refine (nanl_any _ _).mono ?_;rintro e w1 ⟨rfl,rfl⟩)
   go_ret
   exact ⟨by simp [ordI],rfl⟩
 · have h2:¬ x<y:=by omega
   go_enter Tryz.func199,Tryz.ntmps199
   go_wp2_with (go_at_call 202;refine (nanl_any _ _).mono ?_;rintro e w1 ⟨rfl,rfl⟩)
   go_ret
   exact ⟨by simp [ordI,h,h2],rfl⟩
theorem cmpL_lib:∀ a b:List UInt8,Lib.compareBytes a b=cmpL a b
 | [],[]=>rfl
 | [],_ :: _=>rfl
 | _ :: _,[]=>rfl
 | a :: x,b :: y=>by
  rw [Lib.compareBytes,cmpL,cmpL_lib x y]
  by_cases h:a=b
  · subst h
    have:¬ a<a:=UInt8.lt_irrefl a
    simp [this]
  · rw [if_neg h]
    have hne:a.toNat ≠ b.toNat:=fun e=>h (UInt8.toNat.inj e)
    by_cases h1:a<b
    · have:a.toNat<b.toNat:=UInt8.lt_iff_toNat_lt.1 h1
      rw [if_pos h1,if_pos this]
    · have h2:¬ a.toNat<b.toNat:=fun e=>h1 (UInt8.lt_iff_toNat_lt.2 e)
      have h3:b<a:=UInt8.lt_iff_toNat_lt.2 (by omega)
      rw [if_neg h1,if_neg h2,if_pos h3]
theorem scmp_any (a b:ByteArray) (w:World):Calls Tryz.prog 201 #[.string a,.string b] w fun e w'=>e=.returned (.int .i64 (cmpL a.data.toList b.data.toList))/\w=w':=by
 rw [<- cmpL_lib]
 exact (Tryz.strings_Compare a b w).mono fun _ _ ⟨h,h'⟩=>⟨h,h'.symm⟩
theorem rank_any (k:Int) (w:World):Calls Tryz.prog 54 #[.int .i64 k] w fun e w'=>e=.returned (.int .i64 (placeV k))/\w=w':=by
 have h0:knownB k=false->placeV k=3:=fun h=>by
  unfold knownB at h
  unfold placeV
  rw [if_pos (by simp at h;omega)]
 have h1:knownB k=true->placeV k=k:=fun h=>by
  unfold knownB at h
  unfold placeV
  rw [if_neg (by simp at h;omega)]
 have H0:=hid h0
 have H1:=hid h1
 clear h0 h1
 go_enter Tryz.func54,Tryz.ntmps54
 go_wp2_with fail
 refine (known_any k _).mono ?_
 rintro e w1 ⟨rfl,rfl⟩
 cases hk:knownB k
 · go_wp2_with fail
   go_ret
   exact ⟨by rw [H0.out hk];rfl,rfl⟩
 · go_wp2_with fail
   go_ret
   exact ⟨by rw [H1.out hk];rfl,rfl⟩
theorem k1_any (a b:Val) (w:World):Calls Tryz.prog 197 #[a.enc,b.enc] w fun e w'=>e=.returned (.int .i64 0)/\Below w.heap.size w w':=by
 unfold Val.enc
 go_enter Tryz.func197,Tryz.ntmps197
 go_wp2_with fail
 go_ret
 exact ⟨rfl,((b0R).alloc (jR _) _).alloc (by simp) _⟩
theorem k2_any (a b:Val) (w:World):Calls Tryz.prog 198 #[a.enc,b.enc] w fun e w'=>e=.returned (.int .i64 (cmpN a.n b.n))/\Below w.heap.size w w':=by
 unfold Val.enc
 go_enter Tryz.func198,Tryz.ntmps198
 go_wp2_with (go_at_call 199;refine (cmpl_any _ _ _).mono ?_;rintro e w1 ⟨rfl,rfl⟩)
 go_ret
 exact ⟨rfl,((b0R).alloc (jR _) _).alloc (by simp) _⟩
theorem k3_any (a b:Val) (w:World):Calls Tryz.prog 200 #[a.enc,b.enc] w fun e w'=>e=.returned (.int .i64 (cmpL a.s.data.toList b.s.data.toList))/\Below w.heap.size w w':=by
 unfold Val.enc
 go_enter Tryz.func200,Tryz.ntmps200
 go_wp2_with (go_at_call 201;refine (scmp_any _ _ _).mono ?_;rintro e w1 ⟨rfl,rfl⟩)
 go_ret
 exact ⟨rfl,((b0R).alloc (jR _) _).alloc (by simp) _⟩
theorem vcmp_any (a b:Val) (w:World) (hK:KindsAt w):Calls Tryz.prog 24 #[a.enc,b.enc] w fun e w'=>e=.returned (.int .i64 (cmpV a b))/\Below w.heap.size w w':=by
 have e0:placeV a.kind ≠ placeV b.kind->cmpV a b=cmpN (placeV a.kind) (placeV b.kind):=fun h=>by unfold cmpV cmpN;rw [if_pos h]
 have e1:∀ k,placeV a.kind=placeV b.kind->a.kind=k->0<=k->k<=2->cmpV a b=if k=1 then cmpN a.n b.n else if k=2 then cmpL a.s.data.toList b.s.data.toList else 0:=fun k h hk h0 h1=>by
  have hp:placeV a.kind=k:=by rw [hk];unfold placeV;rw [if_neg (by omega)]
  unfold cmpV cmpN
  rw [if_neg (by simpa using h),hp]
 have e2:placeV a.kind=placeV b.kind->knownB a.kind=false->cmpV a b=0:=fun h hk=>by
  have hp:placeV a.kind=3:=by unfold placeV;unfold knownB at hk;rw [if_pos (by simp at hk;omega)]
  unfold cmpV
  rw [if_neg (by simpa using h),hp]
  simp
 have e3:cmpN (placeV a.kind) (placeV b.kind)=0 ↔ placeV a.kind=placeV b.kind:=by
  unfold cmpN ordI
  by_cases h1:placeV a.kind<placeV b.kind
  · simp [h1];omega
  · by_cases h2:placeV b.kind<placeV a.kind
    · simp [h1,h2];omega
    · simp [h1,h2];omega
 have E0:=hid e0
 have E1:=hid e1
 have E2:=hid e2
 have E3:=hid e3
 have HK:=hid hK
 clear e0 e1 e2 e3 hK
 generalize hC:cmpV a b=C at E0 E1 E2 ⊢
 clear hC
 obtain ⟨ak,an,asx⟩:=a
 obtain ⟨bk,bn,bsx⟩:=b
 obtain ⟨c,hc⟩:∃ c,c=cmpN (placeV ak) (placeV bk):=⟨_,rfl⟩
 simp only at E0 E1 E2 E3
 rw [<- hc] at E0 E3
 have HC:=hid hc.symm
 clear hc
 unfold Val.enc
 simp only
 go_enter Tryz.func24,Tryz.ntmps24
 go_upto_region 1 with (fail)
 generalize hW:World.alloc _ _=W
 have hA:allocs w [_,_]=W:=hW
 have ka:=allocs_get hA 0 rfl
 have kb:=allocs_get hA 1 rfl
 have hb:=allocs_self hA
 simp only [Nat.add_zero] at ka
 have KA:=hid ka
 have KB:=hid kb
 have BW:=hid hb
 have HKW:=hid (HK.out.below hb)
 clear hW hA ka kb hb
 refine wp_region_class (Below W.heap.size W) (by kernel_rfl) (by kernel_rfl) (Below.drew b0R) (fun ne=>?_)
 have q0:=fun z:Wld (Below W.heap.size W)=>jC ((z.good.block _ (jB KA.out)).trans KA.out) 0
 have q1:=fun z:Wld (Below W.heap.size W)=>jC ((z.good.block _ (jB KB.out)).trans KB.out) 0
 simp only [gT,gZ,gS] at q0 q1
 repeat (go_big_quiet_step (first|(go_at_call 54;(with_reducible refine Calls.mono (rank_any _ _) ?_);rintro e w2 ⟨rfl,rfl⟩;exact ⟨rfl,class_below _ b0R (jR _)⟩)|(go_at_call 53;(with_reducible refine Calls.mono (cmpi_any _ _ _) ?_);rintro e w2 ⟨rfl,rfl⟩;exact ⟨congrArg (fun q=>Ending.returned (Value.int .i64 q)) HC.out,class_below _ b0R (jR _)⟩)))
 refine wpQuiet_nil ?_
 intro w1 b1
 clear q0 q1 ne
 have B1:=hid (BW.out.trans (b1.mono BW.out.size))
 have KA1:=cy b1 KA
 have KB1:=cy b1 KB
 have HK1:=hid (HKW.out.below b1)
 clear b1
 by_cases hp:placeV ak=placeV bk
 · have hc0:c=0:=E3.out.2 hp
   have HP:=hid hp
   clear hp
   subst hc0
   have q0:=jC KA1.out 0
   simp only [gT,gZ,gS] at q0
   go_wp2_with fail
   refine (known_any ak _).mono ?_
   rintro e w2 ⟨rfl,rfl⟩
   cases hk:knownB ak
   · have HKN:=hid (E2.out HP.out hk)
     clear hk
     go_wp2_with fail
     go_ret
     exact ⟨by rw [HKN.out];rfl,B1.out⟩
   · have h012:ak=0 \/ ak=1 \/ ak=2:=by unfold knownB at hk;simp at hk;omega
     clear hk
     rcases h012 with rfl|rfl|rfl
     · have HE:=hid (E1.out 0 HP.out rfl (by decide) (by decide))
       go_upto_region 4 with (fail)
       refine wp_region_class (Below w1.heap.size w1) (by kernel_rfl) (by kernel_rfl) (Below.drew b0R) (fun ne=>?_)
       have k0:=fun z:Wld (Below w1.heap.size w1)=>(HK1.out.below z.good).1
       have a0:=fun z:Wld (Below w1.heap.size w1)=>jC ((z.good.block _ (jB KA1.out)).trans KA1.out) 0
       have a1:=fun z:Wld (Below w1.heap.size w1)=>jC ((z.good.block _ (jB KA1.out)).trans KA1.out) 1
       have a2:=fun z:Wld (Below w1.heap.size w1)=>jC ((z.good.block _ (jB KA1.out)).trans KA1.out) 2
       have b0:=fun z:Wld (Below w1.heap.size w1)=>jC ((z.good.block _ (jB KB1.out)).trans KB1.out) 0
       have b1:=fun z:Wld (Below w1.heap.size w1)=>jC ((z.good.block _ (jB KB1.out)).trans KB1.out) 1
       have b2:=fun z:Wld (Below w1.heap.size w1)=>jC ((z.good.block _ (jB KB1.out)).trans KB1.out) 2
       simp only [gT,gZ,gS] at a0 a1 a2 b0 b1 b2
       repeat (go_big_quiet_step ((go_at_call 197;(refine Calls.mono (k1_any ⟨0,an,asx⟩ ⟨bk,bn,bsx⟩ _) ?_);rintro e w2 ⟨rfl,b2⟩;exact ⟨rfl,class_below _ b2 (jR _)⟩)))
       refine wpQuiet_nil ?_
       intro w3 b3
       have B3:=hid (B1.out.trans (b3.mono B1.out.size))
       clear b3 k0 a0 a1 a2 b0 b1 b2 ne q0
       go_wp2_with fail
       go_ret
       exact ⟨by rw [HE.out];rfl,B3.out⟩
     · have HE:=hid (E1.out 1 HP.out rfl (by decide) (by decide))
       go_upto_region 4 with (fail)
       refine wp_region_class (Below w1.heap.size w1) (by kernel_rfl) (by kernel_rfl) (Below.drew b0R) (fun ne=>?_)
       have k0:=fun z:Wld (Below w1.heap.size w1)=>(HK1.out.below z.good).2.1
       have a0:=fun z:Wld (Below w1.heap.size w1)=>jC ((z.good.block _ (jB KA1.out)).trans KA1.out) 0
       have a1:=fun z:Wld (Below w1.heap.size w1)=>jC ((z.good.block _ (jB KA1.out)).trans KA1.out) 1
       have a2:=fun z:Wld (Below w1.heap.size w1)=>jC ((z.good.block _ (jB KA1.out)).trans KA1.out) 2
       have b0:=fun z:Wld (Below w1.heap.size w1)=>jC ((z.good.block _ (jB KB1.out)).trans KB1.out) 0
       have b1:=fun z:Wld (Below w1.heap.size w1)=>jC ((z.good.block _ (jB KB1.out)).trans KB1.out) 1
       have b2:=fun z:Wld (Below w1.heap.size w1)=>jC ((z.good.block _ (jB KB1.out)).trans KB1.out) 2
       simp only [gT,gZ,gS] at a0 a1 a2 b0 b1 b2
       repeat (go_big_quiet_step ((go_at_call 198;(refine Calls.mono (k2_any ⟨1,an,asx⟩ ⟨bk,bn,bsx⟩ _) ?_);rintro e w2 ⟨rfl,b2⟩;exact ⟨rfl,class_below _ b2 (jR _)⟩)))
       refine wpQuiet_nil ?_
       intro w3 b3
       have B3:=hid (B1.out.trans (b3.mono B1.out.size))
       clear b3 k0 a0 a1 a2 b0 b1 b2 ne q0
       go_wp2_with fail
       go_ret
       exact ⟨by rw [HE.out];rfl,B3.out⟩
     · have HE:=hid (E1.out 2 HP.out rfl (by decide) (by decide))
       go_upto_region 4 with (fail)
       refine wp_region_class (Below w1.heap.size w1) (by kernel_rfl) (by kernel_rfl) (Below.drew b0R) (fun ne=>?_)
       have k0:=fun z:Wld (Below w1.heap.size w1)=>(HK1.out.below z.good).2.2
       have a0:=fun z:Wld (Below w1.heap.size w1)=>jC ((z.good.block _ (jB KA1.out)).trans KA1.out) 0
       have a1:=fun z:Wld (Below w1.heap.size w1)=>jC ((z.good.block _ (jB KA1.out)).trans KA1.out) 1
       have a2:=fun z:Wld (Below w1.heap.size w1)=>jC ((z.good.block _ (jB KA1.out)).trans KA1.out) 2
       have b0:=fun z:Wld (Below w1.heap.size w1)=>jC ((z.good.block _ (jB KB1.out)).trans KB1.out) 0
       have b1:=fun z:Wld (Below w1.heap.size w1)=>jC ((z.good.block _ (jB KB1.out)).trans KB1.out) 1
       have b2:=fun z:Wld (Below w1.heap.size w1)=>jC ((z.good.block _ (jB KB1.out)).trans KB1.out) 2
       simp only [gT,gZ,gS] at a0 a1 a2 b0 b1 b2
       repeat (go_big_quiet_step ((go_at_call 200;(refine Calls.mono (k3_any ⟨2,an,asx⟩ ⟨bk,bn,bsx⟩ _) ?_);rintro e w2 ⟨rfl,b2⟩;exact ⟨rfl,class_below _ b2 (jR _)⟩)))
       refine wpQuiet_nil ?_
       intro w3 b3
       have B3:=hid (B1.out.trans (b3.mono B1.out.size))
       clear b3 k0 a0 a1 a2 b0 b1 b2 ne q0
       go_wp2_with fail
       go_ret
       exact ⟨by rw [HE.out];rfl,B3.out⟩
 · have hne:c ≠ 0:=fun e=>hp (E3.out.1 e)
   have h2:(c != 0)=true:=by simpa using hne
   have HE:=hid (E0.out hp)
   clear hp hne
   go_wp2_with fail
   go_ret
   exact ⟨by rw [HE.out];rfl,B1.out⟩
end
section
open Go.RowKit
theorem known_place (k:Int):(knownB k=true->placeV k=k/\0<=k/\k<=2)/\(knownB k=false->placeV k=3):=by
 unfold knownB placeV
 constructor
 · intro h
   simp at h
   rw [if_neg (by omega)]
   omega
 · intro h
   simp at h
   rw [if_pos (by omega)]
theorem fits_null (a b:Val) (op:Int) (h:a.kind=0 \/ b.kind=0):fitsV a op b=false:=by
 unfold fitsV
 have p0:placeV 0=0:=by decide
 rw [if_pos (by rcases h with h|h <;> rw [h,p0] <;> simp)]
theorem fits_ne (a b:Val) (op:Int) (h1:a.kind ≠ 0) (h2:b.kind ≠ 0) (h:a.kind ≠ b.kind):fitsV a op b=(op == 2 && knownB a.kind && knownB b.kind):=by
 obtain ⟨ka,kb⟩:=known_place a.kind
 obtain ⟨kc,kd⟩:=known_place b.kind
 unfold fitsV
 cases hka:knownB a.kind
 · rw [if_pos (by rw [kb hka];simp)];simp
 · cases hkb:knownB b.kind
   · rw [if_pos (by rw [kd hkb];simp)];simp
   · have h3:=ka hka
     have h4:=kc hkb
     rw [if_neg (by omega),if_pos (by omega)]
     simp
theorem fits_unknown (a b:Val) (op:Int) (h:knownB a.kind=false):fitsV a op b=false:=by
 unfold fitsV
 rw [if_pos (by rw [(known_place a.kind).2 h];simp)]
theorem fits_eq (a b:Val) (op:Int) (h1:a.kind ≠ 0) (h:a.kind=b.kind) (hk:knownB a.kind=true):fitsV a op b=opOk op (cmpV a b):=by
 have h3:=(known_place a.kind).1 hk
 unfold fitsV
 rw [<- h,if_neg (by omega),if_neg (by simp)]
theorem vfits_any (a b:Val) (op:Int) (w:World) (hK:KindsAt w):Calls Tryz.prog 68 #[a.enc,.int .i64 op,b.enc] w fun e w'=>e=.returned (.bool (fitsV a op b))/\Below w.heap.size w w':=by
 have HK:=hid hK
 clear hK
 have HB:=hid (((Below.refl w.heap.size w).alloc (jR _) (.cells #[.int .i64 a.kind,.int .i64 a.n,.string a.s] 55)).alloc (by simp) (.cells #[.int .i64 b.kind,.int .i64 b.n,.string b.s] 55))
 obtain ⟨x,hx⟩:∃ x,a.kind=x:=⟨_,rfl⟩
 obtain ⟨y,hy⟩:∃ y,b.kind=y:=⟨_,rfl⟩
 have HX:=hid hx
 have HY:=hid hy
 show Calls _ _ #[.agg #[.int .i64 a.kind,.int .i64 a.n,.string a.s],.int .i64 op,.agg #[.int .i64 b.kind,.int .i64 b.n,.string b.s]] _ _
 rw [hx,hy] at HB ⊢
 clear hx hy
 by_cases h0:x=0
 · subst h0
   rw [fits_null a b op (Or.inl HX.out)]
   go_enter Tryz.func68,Tryz.ntmps68
   go_wp2_with fail
   go_ret
   exact ⟨rfl,HB.out⟩
 have p0:(x == 0)=false:=by simpa using h0
 by_cases h1:y=0
 · subst h1
   rw [fits_null a b op (Or.inr HY.out)]
   go_enter Tryz.func68,Tryz.ntmps68
   go_wp2_with fail
   go_ret
   exact ⟨rfl,HB.out⟩
 have p1:(y == 0)=false:=by simpa using h1
 by_cases h2:x=y
 · subst h2
   cases hk:knownB x
   · rw [fits_unknown a b op (by rw [HX.out];exact hk)]
     have HKN:=hid hk
     clear hk
     go_enter Tryz.func68,Tryz.ntmps68
     go_wp2_with fail
     refine (known_any _ _).mono ?_
     rintro e w2 ⟨rfl,rfl⟩
     rw [HKN.out]
     go_wp2_with fail
     go_ret
     exact ⟨rfl,HB.out⟩
   · rw [fits_eq a b op (by rw [HX.out];exact h0) (by rw [HX.out,HY.out]) (by rw [HX.out];exact hk)]
     have HKN:=hid hk
     clear hk
     obtain ⟨c,hc⟩:∃ c,cmpV a b=c:=⟨_,rfl⟩
     have HC:=hid hc
     rw [hc]
     clear hc
     have ho:op=1 \/ op=2 \/ op=3 \/ op=4 \/ op=5 \/ op=6 \/ (op ≠ 1/\op ≠ 2/\op ≠ 3/\op ≠ 4/\op ≠ 5/\op ≠ 6):=by omega
     have con:∀ w1,Below w.heap.size w w1->Calls Tryz.prog 24 #[.agg #[.int .i64 x,.int .i64 a.n,.string a.s],.agg #[.int .i64 x,.int .i64 b.n,.string b.s]] w1 fun e w'=>e=.returned (.int .i64 c)/\Below w1.heap.size w1 w':=fun w1 hb=>by
      have:=vcmp_any a b w1 (HK.out.below hb)
      unfold Val.enc at this
      rw [HX.out,HY.out,HC.out] at this
      exact this
     have CON:=hid con
     clear con
     rcases ho with rfl|rfl|rfl|rfl|rfl|rfl|⟨o1,o2,o3,o4,o5,o6⟩
     case inr.inr.inr.inr.inr.inr =>
      have q1:(op == 1)=false:=by simpa using o1
      have q2:(op == 2)=false:=by simpa using o2
      have q3:(op == 3)=false:=by simpa using o3
      have q4:(op == 4)=false:=by simpa using o4
      have q5:(op == 5)=false:=by simpa using o5
      have q6:(op == 6)=false:=by simpa using o6
      have HO:=hid (show opOk op c=false by unfold opOk;rw [if_neg o1,if_neg o2,if_neg o3,if_neg o4,if_neg o5,if_neg o6])
      rw [HO.out]
      go_enter Tryz.func68,Tryz.ntmps68
      go_wp2_with fail
      refine (known_any _ _).mono ?_
      rintro e w2 ⟨rfl,rfl⟩
      rw [HKN.out]
      go_wp2_with fail
      refine (CON.out _ HB.out).mono ?_
      rintro e w3 ⟨rfl,b3⟩
      have B3:=hid (HB.out.trans (b3.mono HB.out.size))
      clear b3
      go_wp2_with fail
      go_ret
      exact ⟨rfl,B3.out⟩
     all_goals
      go_enter Tryz.func68,Tryz.ntmps68
      go_wp2_with fail
      refine (known_any _ _).mono ?_
      rintro e w2 ⟨rfl,rfl⟩
      rw [HKN.out]
      go_wp2_with fail
      refine (CON.out _ HB.out).mono ?_
      rintro e w3 ⟨rfl,b3⟩
      have B3:=hid (HB.out.trans (b3.mono HB.out.size))
      clear b3
      go_wp2_with fail
      go_ret
      exact ⟨by simp [opOk];try (first|rfl|omega),B3.out⟩
 · rw [fits_ne a b op (by rw [HX.out];exact h0) (by rw [HY.out];exact h1) (by rw [HX.out,HY.out];exact h2)]
   rw [HX.out,HY.out]
   have p2:(x != y)=true:=by simpa using h2
   by_cases ho:op=2
   · subst ho
     cases hk:knownB x
     · have HKN:=hid hk
       clear hk
       go_enter Tryz.func68,Tryz.ntmps68
       go_wp2_with fail
       refine (known_any _ _).mono ?_
       rintro e w2 ⟨rfl,rfl⟩
       rw [HKN.out]
       go_wp2_with fail
       go_ret
       exact ⟨rfl,HB.out⟩
     · have HKN:=hid hk
       clear hk
       go_enter Tryz.func68,Tryz.ntmps68
       go_wp2_with fail
       refine (known_any _ _).mono ?_
       rintro e w2 ⟨rfl,rfl⟩
       rw [HKN.out]
       go_wp2_with fail
       refine (known_any _ _).mono ?_
       rintro e w2 ⟨rfl,rfl⟩
       go_wp2_with fail
       go_ret
       exact ⟨by simp,HB.out⟩
   · have q:(op == 2)=false:=by simpa using ho
     rw [q]
     go_enter Tryz.func68,Tryz.ntmps68
     go_wp2_with fail
     go_ret
     exact ⟨rfl,HB.out⟩
end
end Go.Proofs.YtgemihkcihigpaaGreatDoor
