/- slices.DeleteFunc of rows in a block of one's own; the predicate may make memory. -/
import Derived.Lib.SliceRun
import Derived.Test.YtgemihkcihigpaaGreatDoorZD26
set_option linter.unusedVariables false
set_option linter.unusedSimpArgs false
set_option maxRecDepth 100000
set_option maxHeartbeats 64000000
namespace Go.Proofs.YtgemihkcihigpaaGreatDoor
open Go.Lib (hid)
section
open Go.RowKit
def keptN (f:Nat->Bool) (xs:List Value):Nat->List Value
 | 0=>[]
 | k+1=>if f k then keptN f xs k else keptN f xs k ++ (match xs[k]? with|some x=>[x]|none=>[])
theorem keptN_yes {f:Nat->Bool} {xs:List Value} {k:Nat} (h:f k=true):keptN f xs (k+1)=keptN f xs k:=by rw [keptN,if_pos h]
theorem keptN_no {f:Nat->Bool} {xs:List Value} {k:Nat} (hk:k<xs.length) (h:f k=false):keptN f xs (k+1)=keptN f xs k ++ [xs[k]]:=by
 rw [keptN,if_neg (by simp [h]),List.getElem?_eq_getElem hk]
theorem keptN_all {f:Nat->Bool} {xs:List Value}:∀ k,k<=xs.length->(∀ t,t<k->f t=false)->keptN f xs k=xs.take k
 | 0,_,_=>by simp [keptN]
 | k+1,hk,h=>by
  rw [keptN_no (by omega) (h k (by omega)),keptN_all k (by omega) (fun t ht=>h t (by omega)),List.take_succ_eq_append_getElem (by omega)]
theorem owns_trunc {w:World} {B g n c i:Nat} {e:TypeId} {xs:List Value} (h:w.ownsRow B e 1 (.slice (some ⟨g,0,none⟩) n c) n xs) (hi:i<=n):w.ownsRow B e 1 (.slice (some ⟨g,0,none⟩) i c) i (xs.take i):=by
 rcases h.2 with ⟨e',_⟩|⟨g',cap,cur,e',h1,h2,h3,h4,h5,h6⟩
 · cases e'
 · simp only [Value.slice.injEq,Option.some.injEq,Addr.mk.injEq,and_true,true_and] at e'
   obtain ⟨rfl,rfl⟩:=e'
   have hl:=h.1
   refine ⟨by rw [List.length_take];omega,Or.inr ⟨g,c,cur,rfl,h1,h2,Nat.le_trans hi h3,h4,h5,?_⟩⟩
   rw [<- h6,List.take_take]
   congr 1
   omega
theorem owns_setCells {B g c i:Nat} {e:TypeId} {ys:List Value}:∀ (L:List Value) (o:Nat) (w:World),i<=o->w.ownsRow B e 1 (.slice (some ⟨g,0,none⟩) i c) i ys->(w.setCells g o L).ownsRow B e 1 (.slice (some ⟨g,0,none⟩) i c) i ys/\w.grownBy (w.setCells g o L) (some g)
 | [],o,w,_,h=>⟨h,grownBy_refl _ _⟩
 | x :: L,o,w,ho,h=>by
  have hl:=h.1
  obtain ⟨h1,h2⟩:=World.ownsRow.stored h o x
  rw [List.set_eq_of_length_le (by omega)] at h1
  obtain ⟨h3,h4⟩:=owns_setCells L (o+1) _ (by omega) h1
  exact ⟨h3,⟨h4.os.trans h2.os,h4.tape.trans h2.tape,h4.output.trans h2.output,Nat.le_trans h2.size h4.size,fun k hk hn=>(h4.block k (jL hk h2.size) hn).trans (h2.block k hk hn)⟩⟩
theorem grown_bel {Z w w':World} {r:Option Nat} (h:Z.grownBy w r) (hb:Below w.heap.size w w'):Z.grownBy w' r :=
 ⟨hb.os.trans h.os,hb.tape.trans h.tape,hb.output.trans h.output,Nat.le_trans h.size hb.size,fun k hk hn=>(hb.block k (jL hk h.size)).trans (h.block k hk hn)⟩
theorem grown_tra {Z w w':World} {r:Option Nat} (h:Z.grownBy w r) (hb:w.grownBy w' r):Z.grownBy w' r :=
 ⟨hb.os.trans h.os,hb.tape.trans h.tape,hb.output.trans h.output,Nat.le_trans h.size hb.size,fun k hk hn=>(hb.block k (jL hk h.size) hn).trans (h.block k hk hn)⟩
theorem ixN_found {p:Nat->Bool} {n k:Nat} (h:ixN p n=k):k<n/\p k=true/\∀ t,t<k->p t=false:=by
 by_cases hx:∃ t,t<n/\p t=true
 · have:∃ m,m<n/\p m=true/\∀ t,t<m->p t=false:=by
    obtain ⟨t,h1,h2⟩:=hx
    induction t using Nat.strongRecOn with
    | _ t ih =>
     by_cases h3:∃ s,s<t/\p s=true
     · obtain ⟨s,h4,h5⟩:=h3
       exact ih s h4 (by omega) h5
     · exact ⟨t,h1,h2,fun s hs=>by
        cases hq:p s
        · rfl
        · exact absurd ⟨s,hs,hq⟩ h3⟩
   obtain ⟨m,h1,h2,h3⟩:=this
   have h4:=ixN_hit h1 h2 h3
   obtain rfl:m=k:=by omega
   exact ⟨h1,h2,h3⟩
 · have h4:=ixN_miss (p:=p) (n:=n) (fun t ht=>by
    cases hq:p t
    · rfl
    · exact absurd ⟨t,ht,hq⟩ hx)
   omega
theorem set_mid {K:List Value} {m0 x:Value} {mt D:List Value} {i:Nat} (hi:K.length=i):(K ++ (m0 :: mt) ++ (x :: D)).set i x=(K ++ [x]) ++ (mt ++ [x]) ++ D:=by
 subst hi
 simp
theorem del_row {g0 n c g B:Nat} {cb:Array Value} {xs:List Value} (f:Nat->Bool) {w:World} (eg:∀ args w,(callFunc g args).run Tryz.prog w=.ok (.enter g args) w) (hn:n<=1000000000000) (hn0:0<n)
 (ho:w.ownsRow B 35 1 (.slice (some ⟨g0,0,none⟩) n c) n xs)
 (hsl:∀ t (ht:t<xs.length),∃ a m k,xs[t]=.slice a m k)
 (hp:∀ t (ht:t<xs.length),∀ w1,w.grownBy w1 (some g0)->Calls Tryz.prog g (#[xs[t]] ++ cb) w1 fun e w'=>e=.returned (.bool (f t))/\Below w1.heap.size w1 w') :
 Calls Tryz.prog 97 #[.slice (some ⟨g0,0,none⟩) n c,.func (.func g) #[] cb] w fun e w'=>e=.returned (.slice (some ⟨g0,0,none⟩) (keptN f xs n).length c)/\w.grownBy w' (some g0) /\
  w'.ownsRow B 35 1 (.slice (some ⟨g0,0,none⟩) (keptN f xs n).length c) (keptN f xs n).length (keptN f xs n):=by
 obtain ⟨i0,hi,hz0,hz1,hz2⟩:=info_parts info_arr
 have hxl:xs.length=n:=by have:=ho.1;omega
 have hnc:n<=c:=by
  rcases ho.2 with ⟨e',_⟩|⟨g',cap,cur,e',_,_,h3,_⟩
  · cases e'
  · simp only [Value.slice.injEq] at e'
    obtain ⟨_,_,rfl⟩:=e'
    exact h3
 have con:=ixf_row (n:=n) (c:=c) (x0:=fun t=>xs.getD t undef) f eg (by omega) (fun _=>⟨g0,0,rfl,(World.ownsRow.lt ho g0 rfl).2,fun t ht=>by
  rw [Nat.zero_add,World.ownsRow.cellAt ho t (by omega),List.getD_eq_getElem?_getD,List.getElem?_eq_getElem (by omega)];rfl⟩)
  (fun t ht w1 b1=>by
   have:=hp t (by omega) w1 (grownBy_of_below _ b1)
   rw [show xs.getD t undef=xs[t]'(by omega) from by rw [List.getD_eq_getElem?_getD,List.getElem?_eq_getElem (by omega)];rfl]
   exact this)
 have HO:=hid ho
 have HP:=hid hp
 have HSL:=hid hsl
 have HXL:=hid hxl
 obtain ⟨z,hz⟩:∃ z,ixN f n=z:=⟨_,rfl⟩
 rw [hz] at con
 have HZ:=hid hz
 clear ho hp hxl hz hsl
 go_enter Tryz.func97,Tryz.ntmps97
 go_wp2_with fail
 refine con.mono ?_
 rintro e w1 ⟨rfl,b1⟩
 have G1:=hid (grownBy_of_below (some g0) b1)
 have O1:=hid (owns_below HO.out b1)
 clear con b1
 by_cases hz0':z<0
 · have hz1':z=-1:=by have:=idxOf_bd f (List.range n);have h2:=HZ.out;unfold ixN at h2;omega
   subst hz1'
   have HK:=hid (show keptN f xs n=xs from by
    rw [keptN_all n (by rw [HXL.out];omega) (fun t ht=>by
     have:=idxOf_neg f (List.range n) (by have h2:=HZ.out;unfold ixN at h2;omega) t (List.mem_range.2 ht)
     simpa using this),<- HXL.out,List.take_length])
   have d1:((-1:Int) == -1)=true:=rfl
   go_wp2_with fail
   go_ret
   rw [HK.out,HXL.out]
   exact ⟨rfl,G1.out,O1.out⟩
 · obtain ⟨k0,rfl⟩:∃ k:Nat,z=k:=⟨z.toNat,by omega⟩
   obtain ⟨hk0,hf0,hb0⟩:=ixN_found HZ.out
   have d1:((k0:Int) == -1)=false:=by simp
   have hxk:k0<xs.length:=by have:=HXL.out;omega
   have HST:=hid (show (keptN f xs (k0+1)).length=k0/\keptN f xs (k0+1) ++ [xs[k0]] ++ xs.drop (k0+1)=xs from by
    have e1:keptN f xs (k0+1)=xs.take k0:=by rw [keptN_yes hf0,keptN_all k0 (by omega) hb0]
    rw [e1]
    refine ⟨by rw [List.length_take];omega,?_⟩
    rw [List.append_assoc,List.singleton_append,<- List.drop_eq_getElem_cons (by omega),List.take_append_drop])
   clear hb0 hf0
   go_wp2_with fail
   go_loopw [5,6] (fun x5 x6 wr=>∃ (j i:Nat) (mid:List Value),j<=n/\x6=.int .i64 j/\x5=.int .i64 i/\i+mid.length=j/\0<mid.length/\Hid ((keptN f xs j).length=i)/\Hid (w.grownBy wr (some g0)/\wr.ownsRow B 35 1 (.slice (some ⟨g0,0,none⟩) n c) n (keptN f xs j ++ mid ++ xs.drop j))) (fun _ x6 _=>n - (intOf x6).toNat)
   case atStart=>exact ⟨k0+1,k0,[xs[k0]],by omega,by go_num,by go_num,by simp,by simp,hid HST.out.1,hid ⟨G1.out,by rw [HST.out.2];exact O1.out⟩⟩
   case round =>
    obtain ⟨j,i,mid,hj,rfl,rfl,him,hm0,HI,HW⟩:=hrel
    by_cases hlt:j<n
    · have hjx:j<xs.length:=by have:=HXL.out;omega
      obtain ⟨m0,mt,rfl⟩:∃ m0 mt,mid=m0 :: mt:=by
       cases mid with
       | nil=>simp at hm0
       | cons a b=>exact ⟨a,b,rfl⟩
      have hg:∀ t,t<n->wr.cell? ⟨g0,t,none⟩=(keptN f xs j ++ (m0 :: mt) ++ xs.drop j)[t]? := fun t ht=>World.ownsRow.cellAt HW.out.2 t (by omega)
      have c0:=hg j hlt
      rw [List.getElem?_append_right (by rw [List.length_append,HI.out];omega),List.length_append,HI.out,him,Nat.sub_self,List.drop_eq_getElem_cons hjx,List.getElem?_cons_zero] at c0
      have con:=HP.out j hjx wr HW.out.1
      obtain ⟨xa,xm,xk,hxs⟩:=HSL.out j hjx
      obtain ⟨x,hx⟩:∃ x,x=xs[j]:=⟨_,rfl⟩
      rw [<- hx] at c0 con hxs
      subst hxs
      have HXE:=hid hx
      clear hg hx
      cases hfj:f j
      · rw [hfj] at con
        have HK:=hid (keptN_no hjx hfj)
        clear hfj
        go_wp2_with fail
        refine con.mono ?_
        rintro e w2 ⟨rfl,b2⟩
        have O2:=hid (owns_below HW.out.2 b2)
        have G2:=hid (grown_bel HW.out.1 b2)
        have ci:w2.cell? ⟨g0,i,none⟩=some m0:=by
         rw [World.ownsRow.cellAt O2.out i (by simp at him;omega),List.append_assoc,List.getElem?_append_right (by rw [HI.out];exact jR _),HI.out,Nat.sub_self]
         rfl
        have fi:=World.ownsRow.frozenAt O2.out i
        clear b2 con c0
        go_wp2_with fail
        go_roundw
        case rel =>
         refine ⟨j+1,i+1,mt ++ [.slice xa xm xk],by omega,by go_num,by go_num,by simp at him ⊢;omega,by simp,hid (by rw [HK.out,List.length_append,HI.out];rfl),hid ⟨?_,?_⟩⟩
         · exact (grown_tra G2.out (World.ownsRow.stored O2.out i (.slice xa xm xk)).2)
         · have h3:=(World.ownsRow.stored O2.out i (.slice xa xm xk)).1
           rw [List.drop_eq_getElem_cons hjx,<- HXE.out,set_mid HI.out] at h3
           rw [HK.out,<- HXE.out]
           exact h3
        case measure=>simp [intOf];omega
      · rw [hfj] at con
        have HK:=hid (keptN_yes (xs:=xs) hfj)
        clear hfj
        go_wp2_with fail
        refine con.mono ?_
        rintro e w2 ⟨rfl,b2⟩
        have O2:=hid (owns_below HW.out.2 b2)
        have G2:=hid (grown_bel HW.out.1 b2)
        clear b2 con c0
        go_wp2_with fail
        go_roundw
        case rel =>
         refine ⟨j+1,i,(m0 :: mt) ++ [.slice xa xm xk],by omega,by go_num,rfl,by simp at him ⊢;omega,by simp,hid (by rw [HK.out];exact HI.out),hid ⟨G2.out,?_⟩⟩
         have h3:=O2.out
         rw [List.drop_eq_getElem_cons hjx,<- HXE.out] at h3
         rw [HK.out]
         simpa using h3
        case measure=>simp [intOf];omega
    · have hjn:j=n:=by omega
      have hxl:xs.length=n:=HXL.out
      have hde:xs.drop j=[]:=List.drop_eq_nil_of_le (by omega)
      have hkl:(keptN f xs n).length=i:=by rw [<- hjn];exact HI.out
      have hall:(keptN f xs j ++ mid ++ xs.drop j).length=n:=by have:=HW.out.2.1;omega
      have hcl:∀ ty,(Builtin.clear_ #[41] ty #[.slice (some ⟨g0,i,none⟩) (n - i) (c - i)]).run Tryz.prog wr=.ok (.tuple #[]) (wr.setCells g0 i (List.replicate (n - i) (.slice none 0 0))) :=
       fun ty=>Lib.run_clear_slice wr _ _ ty _ Tryz.underlying41 (fun w=>by simp [zeroValue,typeInfo,hi,hz0]) rfl rfl g0 i _ _ (by omega) (fun t ht=>by rw [World.ownsRow.cellAt HW.out.2 (i+t) (by omega),List.getElem?_eq_getElem (by omega)];rfl) (fun t ht=>World.ownsRow.frozenAt HW.out.2 (i+t))
      have HF:=hid (owns_setCells (List.replicate (n - i) (.slice none 0 0)) i wr (jR _) (owns_trunc HW.out.2 (i:=i) (by omega)))
      have HTK:=hid (show (keptN f xs j ++ mid ++ xs.drop j).take i=keptN f xs n from by
       rw [List.append_assoc,List.take_append_of_le_length (by rw [HI.out];exact jR _),List.take_of_length_le (by rw [HI.out];exact jR _),hjn])
      have HKL:=hid hkl
      have hil:i<=n:=by omega
      clear hxl hde hkl hall
      go_wp2_with fail
      go_ret
      rw [HKL.out]
      have h3:=HF.out
      rw [HTK.out] at h3
      exact ⟨rfl,grown_tra HW.out.1 h3.2,h3.1⟩
end
end Go.Proofs.YtgemihkcihigpaaGreatDoor
