/- catalog.names and catalog.Col. -/
import Derived.Test.YtgemihkcihigpaaGreatDoorZD15
import Derived.Test.YtgemihkcihigpaaGreatDoorZD16
set_option linter.unusedVariables false
set_option linter.unusedSimpArgs false
set_option maxRecDepth 100000
set_option maxHeartbeats 64000000
namespace Go.Proofs.YtgemihkcihigpaaGreatDoor
open Go.Lib (hid)
section
open Go.RowKit
theorem owns_shape' {w:World} {B:Nat} {e:TypeId} {sz:Nat} {v:Value} {n:Nat} {xs:List Value} (h:w.ownsRow B e sz v n xs):∃ a c,v=.slice a n c/\(a=none->n=0):=by
 rcases h.2 with ⟨rfl,h0⟩|⟨g,cap,cur,rfl,_⟩
 · subst h0
   exact ⟨none,0,rfl,(fun _=>rfl)⟩
 · exact ⟨some ⟨g,0,none⟩,cap,rfl,(fun e=>by cases e)⟩
theorem sl_owned {α:Type} {w:World} {B:Nat} {e:TypeId} {sz:Nat} {v:Value} {enc:α->List Value} {hl:∀ x,(enc x).length=sz} {L:List α} (h:w.ownsRow B e sz v L.length (L.flatMap enc)) (hL:L.length<=140737488355328):SlV (flatR sz enc hl) (fun k=>B<=k) w v L:=by
 obtain ⟨a,c,hv,h3,h4,_⟩:=RowAt.of_owns_flat (enc:=enc) (sz:=sz) (hl:=hl) (p:=fun k=>B<=k) h (fun _ h=>h)
 exact ⟨a,c,hv,h3,hL,h4⟩
def strEnc (s:ByteArray):List Value:=[.string s]
def strF:Rep ByteArray:=flatR 1 strEnc fun _=>rfl
theorem pnames_any {p:Nat->Prop} {a:Option Addr} {c:Nat} {C:List (ByteArray × Int)} {w:World} (h:SlV colR p w (.slice a C.length c) C) (hC:C.length<=1000000) :
 Calls Tryz.prog 124 #[.slice a C.length c] w fun e w'=>∃ a' c',e=.returned (.slice a' C.length c')/\Below w.heap.size w w'/\SlV strF (fun k=>w.heap.size<=k) w' (.slice a' C.length c') (C.map (·.1)):=by
 obtain ⟨_,_,_,hr⟩:=h.row
 obtain ⟨i0,hi,hz0,hz1,hz2⟩:=info_parts info_ais
 have HR:=hid hr
 clear h hr
 go_enter Tryz.func124,Tryz.ntmps124
 go_wp2_with fail
 go_loopw [2,7] (fun x ii wr=>∃ (k:Nat) (v:Value),k<=C.length/\ii=.int .i64 k/\v=x/\Hid (OneAt w.heap.size w 9 1 v k (((C.take k).map (·.1)).flatMap strEnc) wr)) (fun _ ii _=>C.length - (intOf ii).toNat)
 case atStart=>exact ⟨0,_,Nat.zero_le _,rfl,rfl,World.ownsRow_nil _ _ _ _,Below.refl _ _⟩
 case round =>
  obtain ⟨k,v,hk,rfl,rfl,HO⟩:=hrel
  by_cases hlt:k<C.length
  · obtain ⟨bb,oo,rfl,_,hbb⟩:=HR.out.addr (by intro e;rw [e] at hlt;cases hlt)
    have c0:=(HO.out.b.cell (p:=⟨bb,oo+k * 2,none⟩) hbb).trans (HR.out.col k hlt).1
    have c1:=(HO.out.b.cell (p:=⟨bb,oo+k * 2+1,none⟩) hbb).trans (HR.out.col k hlt).2
    have HTK:=hid (show ((C.take (k+1)).map (·.1)).flatMap strEnc=((C.take k).map (·.1)).flatMap strEnc ++ [.string C[k].1] by
     rw [List.take_succ_eq_append_getElem hlt,List.map_append,List.flatMap_append];rfl)
    obtain ⟨nm,hnm⟩:∃ nm,nm=C[k].1:=⟨_,rfl⟩
    obtain ⟨kd,hkd⟩:∃ kd,kd=C[k].2:=⟨_,rfl⟩
    rw [<- hnm] at c0 HTK
    rw [<- hkd] at c1
    clear hnm hkd
    go_upto_region 4 with (fail)
    generalize hW:World.alloc _ _=W
    have hb:Below wr.heap.size wr W:=by rw [<- hW];exact (b0R).alloc (jR _) _
    have hq:W.heap[wr.heap.size]? = some (.cells #[.string nm,.int .i64 kd] 118 (0,0)):=by rw [<- hW];exact heap_alloc_new _ _
    have q0:=jC hq 0
    simp only [List.getElem?_toArray,List.getElem?_cons_zero] at q0
    have O2:=hid (HO.out.below hb HO.out.b.size)
    have hs2:=O2.out.b.size
    clear hW hq hb c0 c1
    go_wp2_with (at_builtin;go_loud (refine wpList_append_own_at _ rfl _ _ 33 rfl w.heap.size 9 i0 _ 1 16 Tryz.underlying33 hi hz0 hz1 hz2 rfl (by decide) v k _ rfl (O2.out.m.alloc _) ⟨W.heap.size,0,none⟩ 1 1 [.string nm] rfl rfl (fun j u hj=>by rw [addr_add,jC (heap_alloc_new _ _)];simpa using hj) (fun u hu=>by rw [List.mem_singleton.1 hu];rfl) (by unfold maxLen;omega) (by omega) (by simp;omega) ?_;intro v' w3 o1 g1 hx1 at1;clear hx1 at1;have N3:=hid ((O2.out.below ((b0R).alloc (jR _) _) hs2).push (by simp;omega) o1 g1);clear o1 g1))
    go_roundw
    case rel=>exact ⟨k+1,_,by omega,by go_num,rfl,by rw [HTK.out];exact N3⟩
    case measure=>simp [intOf];omega
  · have hkn:k=C.length:=by omega
    have HF:=hid (show w.heap.size<=wr.heap.size/\OneAt w.heap.size w 9 1 v C.length ((C.map (·.1)).flatMap strEnc) wr from ⟨HO.out.b.size,by have:=HO.out;rw [hkn,List.take_length] at this;exact this⟩)
    obtain ⟨a',c',hv,_⟩:=owns_shape' HF.out.2.m
    rw [hv] at HF ⊢
    clear HO hv hkn
    go_wp2_with fail
    go_ret
    have hfin:SlV strF (fun k=>w.heap.size<=k) wr (.slice a' C.length c') (C.map (·.1)):=sl_owned (hl:=fun _=>rfl) (enc:=strEnc) (sz:=1) (by have:=HF.out.2.m;simpa using this) (by simp;omega)
    exact ⟨a',c',rfl,HF.out.2.b,hfin⟩
theorem idxOfS_eq (l:List ByteArray) (x:ByteArray):Lib.idxOfS l x=idxOf (fun c=>sEq c x) l:=by
 have key:∀ (l:List ByteArray) (i:Nat),Lib.idxFromS l x i=if idxOf (fun c=>sEq c x) l<0 then -1 else (i:Int)+idxOf (fun c=>sEq c x) l:=by
  intro l
  induction l with
  | nil=>intro i;rfl
  | cons z l ih =>
   intro i
   rw [Lib.idxFromS]
   by_cases h:z=x
   · have e:idxOf (fun c=>sEq c x) (z :: l)=0:=idxOf_hit (k:=0) (by simp) (by simpa using (sEq_iff z x).2 h) (fun t ht=>by omega)
     rw [e]
     simp [h]
   · have hz:sEq z x=false:=by
      cases hs:sEq z x
      · rfl
      · exact absurd ((sEq_iff z x).1 hs) h
     have e:idxOf (fun c=>sEq c x) (z :: l)=if idxOf (fun c=>sEq c x) l<0 then -1 else idxOf (fun c=>sEq c x) l+1:=by
      by_cases hn:idxOf (fun c=>sEq c x) l<0
      · rw [if_pos hn]
        refine idxOf_miss (fun t ht=>?_)
        cases t with
        | zero=>exact hz
        | succ t=>exact idxOf_neg _ _ hn _ (List.getElem_mem (by simpa using ht))
      · rw [if_neg hn]
        obtain ⟨k,hk,h3,h4,h5⟩:=idxOf_spec (fun c=>sEq c x) l (by omega)
        rw [h3]
        have:=idxOf_hit (p:=fun c=>sEq c x) (L:=z :: l) (k:=k+1) (by simpa using hk) (by simpa using h4) (fun t ht=>by
         cases t with
         | zero=>exact hz
         | succ t=>exact h5 t (by omega))
        rw [this];omega
     rw [e,ih]
     have hb:=(idxOf_bd (fun c=>sEq c x) l).1
     by_cases hn:idxOf (fun c=>sEq c x) l<0
     · simp [hn,h]
     · simp [hn,h]
       split <;> omega
 have hb:=(idxOf_bd (fun c=>sEq c x) l).1
 unfold Lib.idxOfS
 rw [key]
 split <;> omega
theorem idxOf_map {α β:Type} (f:α->β) (p:β->Bool) (L:List α):idxOf p (L.map f)=idxOf (fun x=>p (f x)) L:=by
 unfold idxOf
 rw [List.findIdx?_map]
 rfl
theorem pcol_any {p:Nat->Prop} {tv:Value} {T:Tab} {w:World} (h:TabV p w tv T) (hC:T.cols.length<=1000000) (name:ByteArray) :
 Calls Tryz.prog 67 #[tv,.string name] w fun e w'=>e=.returned (.int .i64 (colOf T name))/\Below w.heap.size w w':=by
 obtain ⟨ac,cc,ai,ci,rfl,h1,_⟩:=h
 have H1:=hid (h1.below ((Below.refl w.heap.size w).alloc (jR _) (.cells #[.int .i64 T.id,.string T.name,.slice ac T.cols.length cc,.slice ai T.idx.length ci] 75)))
 clear h1
 go_enter Tryz.func67,Tryz.ntmps67
 go_wp2_with fail
 refine (pnames_any H1.out hC).mono ?_
 rintro e w2 ⟨a',c',rfl,b2,s2⟩
 have hidx:Lib.idxOfS (T.cols.map (·.1)) name=colOf T name:=by rw [idxOfS_eq,idxOf_map];rfl
 have B2:=hid (((Below.refl w.heap.size w).alloc (jR _) (.cells #[.int .i64 T.id,.string T.name,.slice ac T.cols.length cc,.slice ai T.idx.length ci] 75)).trans (b2.mono (by simp)))
 have con:Calls Tryz.prog 123 #[.slice a' T.cols.length c',.string name] w2 fun e w'=>e=.returned (.int .i64 (colOf T name))/\w'=w2:=by
  obtain ⟨_,_,hl,hr⟩:=(show SlV strF _ w2 (.slice a' T.cols.length c') (T.cols.map (·.1)) from s2).row
  rcases Nat.eq_zero_or_pos T.cols.length with h0|h0
  · have h00:T.cols=[]:=List.eq_nil_of_length_eq_zero h0
    have:=Tryz.slices_Index_string_empty a' c' name w2
    rw [<- hidx,h00]
    exact this
  · obtain ⟨b,off,rfl,_,_⟩:=hr.addr (by intro e;rw [List.map_eq_nil_iff] at e;rw [e] at h0;simp at h0)
    have:=Tryz.slices_Index_string b off T.cols.length c' (T.cols.map (·.1)) name w2 (by simp) (by omega) (fun j hj=>by
     have h5:=hr.flat j hj 0 (by decide)
     rw [List.getD_eq_getElem?_getD,List.getElem?_eq_getElem hj]
     simpa [strEnc] using h5)
    rw [show (T.cols.map (·.1)).take T.cols.length=T.cols.map (·.1) from List.take_of_length_le (by simp),hidx] at this
    exact this
 clear b2 s2 hidx
 go_wp2_with fail
 refine con.mono ?_
 rintro e w3 ⟨rfl,rfl⟩
 clear con
 go_wp2_with fail
 go_ret
 exact ⟨rfl,B2.out⟩
end
section
open Go.RowKit
theorem fitsC_neg {T:Tab} {r:List Val} {c:Cond} (h:colOf T c.col<0 \/ (r.length:Int)<=colOf T c.col):fitsC T r c=false:=by
 unfold fitsC
 rcases h with h|h
 · have:decide (0<=colOf T c.col)=false:=by simpa using h
   rw [this];rfl
 · have:decide (colOf T c.col<r.length)=false:=by simpa using h
   rw [this];simp
theorem fc_any {p q:Nat->Prop} {ac ai ar:Option Addr} {cc ci cr bt br:Nat} {T:Tab} {r:List Val} {w:World} (hT:TabV p w (.agg #[.int .i64 T.id,.string T.name,.slice ac T.cols.length cc,.slice ai T.idx.length ci]) T) (hC:T.cols.length<=1000000) (hr:SlV valR q w (.slice ar r.length cr) r)
 (hbt:w.heap[bt]? = some (.cells #[.int .i64 T.id,.string T.name,.slice ac T.cols.length cc,.slice ai T.idx.length ci] 75 (0,0))) (hbr:w.heap[br]? = some (.cells #[.slice ar r.length cr] 35 (0,0))) (hK:KindsAt w) (c:Cond) :
 Calls Tryz.prog 66 #[.agg #[.string c.col,.int .i64 c.op,.int .i64 c.val.kind,.int .i64 c.val.n,.string c.val.s],.pointer (some ⟨bt,0,none⟩),.pointer (some ⟨br,0,none⟩)] w
  fun e w'=>e=.returned (.bool (!fitsC T r c))/\Below w.heap.size w w':=by
 obtain ⟨cn,cop,⟨vk,vn,vs⟩⟩:=c
 obtain ⟨W1,hW1⟩:∃ W1,w.alloc (.cells #[.string cn,.int .i64 cop,.int .i64 vk,.int .i64 vn,.string vs] 60)=W1:=⟨_,rfl⟩
 have hb1:Below w.heap.size w W1:=by rw [<- hW1];exact (b0R).alloc (jR _) _
 have hq:W1.heap[w.heap.size]? = some (.cells #[.string cn,.int .i64 cop,.int .i64 vk,.int .i64 vn,.string vs] 60 (0,0)):=by rw [<- hW1];exact heap_alloc_new _ _
 have HT:=hid (hT.below hb1)
 have HR:=hid (hr.below hb1)
 have HBT:=hid ((hb1.block _ (jB hbt)).trans hbt)
 have HBR:=hid ((hb1.block _ (jB hbr)).trans hbr)
 have HK:=hid (hK.below hb1)
 have HQ:=hid hq
 have B1:=hid hb1
 clear hT hr hbt hbr hK hq hb1
 simp only
 obtain ⟨n,hn⟩:∃ n,n=colOf T cn:=⟨_,rfl⟩
 have HN:=hid hn.symm
 clear hn
 go_enter Tryz.func66,Tryz.ntmps66
 go_upto_region 1 with (fail)
 clear hW1
 have t0:=jC HBT.out 0
 have t1:=jC HBT.out 1
 have t2:=jC HBT.out 2
 have t3:=jC HBT.out 3
 have q0:=jC HQ.out 0
 simp only [gT,gZ,gS] at t0 t1 t2 t3 q0
 go_wp2_with fail
 refine (pcol_any HT.out hC cn).mono ?_
 rintro e w2 ⟨rfl,b2⟩
 rw [HN.out]
 have B2:=hid (B1.out.trans (b2.mono B1.out.size))
 have HBR2:=cy b2 HBR
 have HQ2:=cy b2 HQ
 have HR2:=hid (HR.out.below b2)
 have HK2:=hid (HK.out.below b2)
 clear b2 t0 t1 t2 t3 q0
 rcases (show n<0 \/ (0<=n/\(r.length:Int)<=n) \/ (0<=n/\n<r.length) by omega) with h|⟨h1,h2⟩|⟨h1,h2⟩
 · have HF:=hid (fitsC_neg (T:=T) (r:=r) (c:=⟨cn,cop,⟨vk,vn,vs⟩⟩) (Or.inl (by show colOf T cn<0;rw [HN.out];exact h)))
   go_upto_region 2 with (fail)
   refine wp_region_class (Below w2.heap.size w2) (by kernel_rfl) (by kernel_rfl) (Below.drew b0R) (fun ne=>?_)
   repeat (go_big_quiet_step (fail))
   refine wpQuiet_nil ?_
   intro w3 b3
   have B3:=hid (B2.out.trans (b3.mono B2.out.size))
   clear b3 ne
   go_wp2_with fail
   go_ret
   exact ⟨by rw [HF.out];rfl,B3.out⟩
 · have HF:=hid (fitsC_neg (T:=T) (r:=r) (c:=⟨cn,cop,⟨vk,vn,vs⟩⟩) (Or.inr (by show _<=colOf T cn;rw [HN.out];exact h2)))
   have d1:decide (n<0)=false:=decide_eq_false (by omega)
   have d2:decide (n ≥ (r.length:Int))=true:=decide_eq_true h2
   go_upto_region 2 with (fail)
   refine wp_region_class (Below w2.heap.size w2) (by kernel_rfl) (by kernel_rfl) (Below.drew b0R) (fun ne=>?_)
   have r0:=fun z:Wld (Below w2.heap.size w2)=>jC ((z.good.block _ (jB HBR2.out)).trans HBR2.out) 0
   simp only [gT,gZ,gS] at r0
   repeat (go_big_quiet_step (fail))
   refine wpQuiet_nil ?_
   intro w3 b3
   have B3:=hid (B2.out.trans (b3.mono B2.out.size))
   clear b3 r0 ne
   go_wp2_with fail
   go_ret
   exact ⟨by rw [HF.out];rfl,B3.out⟩
 · obtain ⟨k,rfl⟩:∃ k:Nat,n=k:=⟨n.toNat,by omega⟩
   have hk:k<r.length:=by omega
   have HF:=hid (show fitsC T r ⟨cn,cop,⟨vk,vn,vs⟩⟩=fitsV r[k] cop ⟨vk,vn,vs⟩ by
    unfold fitsC
    simp only [HN.out,Int.toNat_natCast]
    have e1:decide ((0:Int)<=(k:Int))=true:=by simp
    have e2:decide ((k:Int)<(r.length:Int))=true:=by simpa using hk
    rw [e1,e2,List.getD_eq_getElem?_getD,List.getElem?_eq_getElem hk]
    rfl)
   obtain ⟨x,hx⟩:∃ x,x=r[k]:=⟨_,rfl⟩
   obtain ⟨_,_,_,hrow⟩:=HR2.out.row
   obtain ⟨bb,oo,rfl,_,hbb⟩:=hrow.addr (by intro e;rw [e] at hk;cases hk)
   have X:=hrow.val k hk
   rw [<- hx] at X HF
   have HXX:=hid X
   obtain ⟨f,hf⟩:∃ f,fitsV x cop ⟨vk,vn,vs⟩=f:=⟨_,rfl⟩
   have HFV:=hid hf
   clear X hx hf hrow
   have d1:decide ((k:Int)<0)=false:=decide_eq_false (by omega)
   have d2:decide (r.length<=k)=false:=decide_eq_false (by omega)
   go_upto_region 2 with (fail)
   refine wp_region_class (Below w2.heap.size w2) (by kernel_rfl) (by kernel_rfl) (Below.drew b0R) (fun ne=>?_)
   have r0:=fun z:Wld (Below w2.heap.size w2)=>jC ((z.good.block _ (jB HBR2.out)).trans HBR2.out) 0
   have q0:=fun z:Wld (Below w2.heap.size w2)=>jC ((z.good.block _ (jB HQ2.out)).trans HQ2.out) 0
   have q1:=fun z:Wld (Below w2.heap.size w2)=>jC ((z.good.block _ (jB HQ2.out)).trans HQ2.out) 1
   have q2:=fun z:Wld (Below w2.heap.size w2)=>jC ((z.good.block _ (jB HQ2.out)).trans HQ2.out) 2
   have q3:=fun z:Wld (Below w2.heap.size w2)=>jC ((z.good.block _ (jB HQ2.out)).trans HQ2.out) 3
   have q4:=fun z:Wld (Below w2.heap.size w2)=>jC ((z.good.block _ (jB HQ2.out)).trans HQ2.out) 4
   simp only [gT,gZ,gS] at r0 q0 q1 q2 q3 q4
   have x0:=fun z:Wld (Below w2.heap.size w2)=>(z.good.cell (p:=⟨bb,oo+k * 3,none⟩) hbb).trans HXX.out.1
   have x1:=fun z:Wld (Below w2.heap.size w2)=>(z.good.cell (p:=⟨bb,oo+k * 3+1,none⟩) hbb).trans HXX.out.2.1
   have x2:=fun z:Wld (Below w2.heap.size w2)=>(z.good.cell (p:=⟨bb,oo+k * 3+2,none⟩) hbb).trans HXX.out.2.2
   have HGO:=hid (fun z:Wld (Below w2.heap.size w2)=>HK2.out.below z.good)
   repeat (go_big_quiet_step ((go_at_call 68;(refine Calls.mono (vfits_any x ⟨vk,vn,vs⟩ cop _ (HGO.out _)) ?_);rintro e w3 ⟨rfl,b3⟩;exact ⟨congrArg (fun q=>Ending.returned (Value.bool q)) HFV.out,class_below _ b3 (jR _)⟩)))
   refine wpQuiet_nil ?_
   intro w3 b3
   have B3:=hid (B2.out.trans (b3.mono B2.out.size))
   clear b3 r0 q0 q1 q2 q3 q4 x0 x1 x2 HGO ne
   go_wp2_with fail
   go_ret
   exact ⟨by rw [HF.out,HFV.out];rfl,B3.out⟩
def cAt (L:List Cond) (t:Nat):Cond:=(L[t]?).getD ⟨noStr,0,val0⟩
theorem cAt_eq {L:List Cond} {t:Nat} (h:t<L.length):cAt L t=L[t]:=by
 unfold cAt
 rw [List.getElem?_eq_getElem h];rfl
theorem fitsW_any (T:Tab) (L:List Cond) (r:List Val):(!anyN (fun t=>!fitsC T r (cAt L t)) L.length)=fitsW T L r:=by
 rw [anyN_list (fun c=>!fitsC T r c) L _ (fun t ht=>by rw [cAt_eq ht])]
 unfold fitsW
 rw [List.not_any_eq_all_not]
 simp
theorem fits_any {p q s:Nat->Prop} {ac ai ar aw:Option Addr} {cc ci cr cw:Nat} {T:Tab} {r:List Val} {L:List Cond} {w:World} (hT:TabV p w (.agg #[.int .i64 T.id,.string T.name,.slice ac T.cols.length cc,.slice ai T.idx.length ci]) T) (hC:T.cols.length<=1000000) (hr:SlV valR q w (.slice ar r.length cr) r)
 (hL:SlV condR s w (.slice aw L.length cw) L) (hK:KindsAt w) :
 Calls Tryz.prog 30 #[.agg #[.int .i64 T.id,.string T.name,.slice ac T.cols.length cc,.slice ai T.idx.length ci],.slice ar r.length cr,.slice aw L.length cw] w
  fun e w'=>e=.returned (.bool (fitsW T L r))/\Below w.heap.size w w':=by
 obtain ⟨W1,hW1⟩:∃ W1,w.alloc (.cells #[.int .i64 T.id,.string T.name,.slice ac T.cols.length cc,.slice ai T.idx.length ci] 75)=W1:=⟨_,rfl⟩
 obtain ⟨W2,hW2⟩:∃ W2,W1.alloc (.cells #[.slice ar r.length cr] 35)=W2:=⟨_,rfl⟩
 have hb1:Below w.heap.size w W1:=by rw [<- hW1];exact (b0R).alloc (jR _) _
 have h1s:W1.heap.size=w.heap.size+1:=by rw [<- hW1];exact Array.size_push _
 have hb2:Below w.heap.size w W2:=by rw [<- hW2];exact hb1.alloc (by omega) _
 have ht0:W1.heap[w.heap.size]? = some (.cells #[.int .i64 T.id,.string T.name,.slice ac T.cols.length cc,.slice ai T.idx.length ci] 75 (0,0)):=by rw [<- hW1];exact heap_alloc_new _ _
 have hb12:Below W1.heap.size W1 W2:=by rw [<- hW2];exact (b0R).alloc (jR _) _
 have HBT:=hid ((hb12.block _ (jB ht0)).trans ht0)
 have HBR:=hid (show W2.heap[w.heap.size+1]? = some (.cells #[.slice ar r.length cr] 35 (0,0)) by rw [<- hW2,<- h1s];exact heap_alloc_new _ _)
 have HT:=hid (hT.below hb2)
 have HR:=hid (hr.below hb2)
 have HL:=hid (hL.below hb2)
 have HK:=hid (hK.below hb2)
 have B2:=hid hb2
 have con:Calls Tryz.prog 65 #[.slice aw L.length cw,.func (.func 66) #[] #[.pointer (some ⟨w.heap.size,0,none⟩),.pointer (some ⟨w.heap.size+1,0,none⟩)]] W2 fun e w'=>e=.returned (.bool (anyN (fun t=>!fitsC T r (cAt L t)) L.length))/\Below W2.heap.size W2 w':=by
  obtain ⟨_,_,hmx,hrow⟩:=HL.out.row
  refine cf_cond (x0:=fun t=>.string (cAt L t).col) (x1:=fun t=>.int .i64 (cAt L t).op) (x2:=fun t=>.int .i64 (cAt L t).val.kind) (x3:=fun t=>.int .i64 (cAt L t).val.n) (x4:=fun t=>.string (cAt L t).val.s) (fun t=>!fitsC T r (cAt L t)) (enters_of Tryz.func66 (by kernel_rfl) rfl) hmx (fun h0=>?_) (fun t ht w1 b1=>?_)
  · obtain ⟨b,off,rfl,_,hbl⟩:=hrow.addr (by intro e;rw [e] at h0;cases h0)
    refine ⟨b,off,rfl,hbl,fun t ht=>?_⟩
    have:=hrow.cond t ht
    rw [cAt_eq ht]
    exact this
  · exact fc_any (HT.out.below b1) hC (HR.out.below b1) ((b1.block _ (jB HBT.out)).trans HBT.out) ((b1.block _ (jB HBR.out)).trans HBR.out) (HK.out.below b1) (cAt L t)
 have HF:=hid (fitsW_any T L r)
 generalize anyN _ _=f at con HF
 clear hT hr hL hK hb1 hb2 hb12 ht0 HT HR HL HK HBT HBR
 go_enter Tryz.func30,Tryz.ntmps30
 go_upto_region 1 with (fail)
 clear hW1 hW2 h1s
 go_wp2_with fail
 refine con.mono ?_
 rintro e w2 ⟨rfl,b2⟩
 have B3:=hid (B2.out.trans (b2.mono B2.out.size))
 clear b2 con
 go_wp2_with fail
 go_ret
 exact ⟨by rw [<- HF.out];rfl,B3.out⟩
end
end Go.Proofs.YtgemihkcihigpaaGreatDoor
