/- The reference's generated conditions. -/
import Derived.Test.YtieojjngeibnmaaGreatDoorZB28
import Derived.Test.YtieojjngeibnmaaGreatDoorZB4
import Derived.Test.YtieojjngeibnmaaGreatDoorZB31
set_option linter.unusedVariables false
set_option linter.unusedSimpArgs false
set_option maxRecDepth 100000
set_option maxHeartbeats 64000000
namespace Go.Proofs.YtieojjngeibnmaaGreatDoor
open Go.Lib (hid)
section
open Go.RowKit
theorem pick_at {p:Nat->Prop} {a:Option Addr} {c:Nat} {l:List Int} {w:World} (h:SlV intR p w (.slice a l.length c) l) (k:Int) (hk0:0<=k) (hk:k<=100) (n:Int) (h0:0<n) (h1:n<=1000) :
 Calls Tryz.prog 37 #[.slice a l.length c,.int .i64 k,.int .i64 n] w fun e w'=>e=.returned (.int .i64 (pickI l k.toNat n))/\w=w':=by
 have:=pick_any h k.toNat (by omega) n h0 h1
 rw [Int.toNat_of_nonneg hk0] at this
 exact this
theorem pick_nat (l:List Int) (k:Nat) {n:Int} {m:Nat} (hn:n=m) (hm:0<m):∃ j:Nat,pickI l k n=j/\j<m:=by
 have:=pick_rng l k (n:=n) (by omega)
 exact ⟨(pickI l k n).toNat,by omega,by omega⟩
theorem nm4_at {j:Nat} (h:j<4):∃ x,nm4[j]? = some x/\x ∈ nm4:=by
 have:j<nm4.length:=h
 exact ⟨nm4[j],List.getElem?_eq_getElem this,List.getElem_mem this⟩
theorem names_cell {p:Nat->Prop} {w:World} {b off:Nat} {L:List ByteArray} (h:RowAt strF p w (some ⟨b,off,none⟩) L) {j:Nat} {x:ByteArray} (hx:L[j]? = some x):w.cell? ⟨b,off+j,none⟩=some (.string x):=by
 obtain ⟨hj,rfl⟩:=List.getElem?_eq_some_iff.1 hx
 have:=h.flat j hj 0 (by omega)
 simpa [strEnc] using this
def NewOf (e:TypeId) (cs:List Value) (W:World) (u:Value) (w':World):Prop:=∃ b,u=.slice (some ⟨b,0,none⟩) 1 1/\w'.heap[b]? = some (.cells cs.toArray e (0,0))/\Below W.heap.size W w'
theorem NewOf.below {e:TypeId} {cs:List Value} {W:World} {u:Value} {w w':World} (h:NewOf e cs W u w) (hb:Below w.heap.size w w'):NewOf e cs W u w':=by
 obtain ⟨b,h1,h2,h3⟩:=h
 exact ⟨b,h1,(hb.block _ (jB h2)).trans h2,h3.trans (hb.mono h3.size)⟩
theorem cond_cells (c:Cond):∀ u ∈ condEnc c,u.oneCell'=true:=by
 intro u hu
 simp only [condEnc,List.mem_cons,List.not_mem_nil,or_false] at hu
 rcases hu with rfl|rfl|rfl|rfl|rfl <;> rfl
structure CR (w:World) (i:Nat) (c:List Cond) (v:Value) (wr:World):Prop where
 len:c.length=i
 ok:∀ u ∈ c,CondS u
 o:wr.ownsRow w.heap.size 94 5 v i (c.flatMap condEnc)
 b:Below w.heap.size w wr
theorem CR.below {w w1 w2:World} {i:Nat} {c:List Cond} {v:Value} (h:CR w i c v w1) (hb:Below w1.heap.size w1 w2):CR w i c v w2:=⟨h.len,h.ok,owns_below h.o hb,h.b.trans (hb.mono h.b.size)⟩
theorem CR.next {w w1 w2:World} {i:Nat} {c:List Cond} {v v':Value} (h:CR w i c v w1) (u:Cond) (hu:CondS u) (o:w2.ownsRow w.heap.size 94 5 v' (i+1) (c.flatMap condEnc ++ condEnc u)) (g:w1.grownBy w2 v.ownBlock):CR w (i+1) (c ++ [u]) v' w2:=by
 refine ⟨by simp [h.len],fun x hx=>?_,by rw [List.flatMap_append];simpa using o,h.b.grown g h.b.size fun q e=>(h.o.lt q e).1⟩
 rcases List.mem_append.1 hx with hx|hx
 · exact h.ok x hx
 · rw [List.mem_singleton] at hx;rw [hx];exact hu
theorem conds_any {p q s:Nat->Prop} {al an ar:Option Addr} {cl cn cr:Nat} {l:List Int} {r:List Val} {w:World} (hl:SlV intR p w (.slice al l.length cl) l) (hn:SlV strF q w (.slice an 4 cn) nm4) (hr:SlV valR s w (.slice ar 7 cr) r) (hr7:r.length=7) (hok:∀ u ∈ r,ValS u) :
 Calls Tryz.prog 39 #[.slice al l.length cl,.slice an 4 cn,.slice ar 7 cr] w fun e w'=>(∃ (c:List Cond) (v:Value),e=.returned v/\c.length<=3/\(∀ u ∈ c,CondS u)/\w'.ownsRow w.heap.size 94 5 v c.length (c.flatMap condEnc))/\Below w.heap.size w w':=by
 obtain ⟨Pst,hPst⟩:∃ Pst,Pst=fun (e:Ending) (w':World)=>(∃ (c:List Cond) (v:Value),e=.returned v/\c.length<=3/\(∀ u ∈ c,CondS u)/\w'.ownsRow w.heap.size 94 5 v c.length (c.flatMap condEnc))/\Below w.heap.size w w':=⟨_,rfl⟩
 have HPST:=hid hPst
 rw [<- hPst]
 have HL:=hid hl
 have HRR:=hid (show r.length=7/\(∀ u ∈ r,ValS u) from ⟨hr7,hok⟩)
 have hn':=hn.row.2.2.2
 have hr':=hr.row.2.2.2
 obtain ⟨bn,on,rfl,_,hbn⟩:=hn'.addr (by simp [nm4])
 obtain ⟨br,or_,rfl,_,hbr⟩:=hr'.addr (by intro e;rw [e] at hr7;simp at hr7)
 have HN:=hid (show RowAt strF q w (some ⟨bn,on,none⟩) nm4/\bn<w.heap.size from ⟨hn',hbn⟩)
 have HR:=hid (show RowAt valR s w (some ⟨br,or_,none⟩) r/\br<w.heap.size from ⟨hr',hbr⟩)
 obtain ⟨i0,hi0,hz0,hz1,hz2⟩:=info_parts (show (Tryz.prog.info? 94).map (fun i=>(i.zero,i.size,i.bytes))=some (some (.agg #[.string ByteArray.empty,.int .i64 0,.int .i64 0,.int .i64 0,.string ByteArray.empty]),5,56) by kernel_rfl)
 obtain ⟨n,hnn,hn4⟩:=pick_nat l 9 (n:=4) (m:=4) rfl (by decide)
 have con:=pick_any (hl.below ((b0R).alloc (jR _) (.cells #[] 94))) 9 (by decide) 4 (by decide) (by decide)
 rw [hnn] at con
 have HV:=hid (show CR w 0 [] (.slice (some ⟨w.heap.size,0,none⟩) 0 0) (w.alloc (.cells #[] 94)) from ⟨rfl,nofun,owns_mt7 5 (jR _) (heap_alloc_new _ _),(b0R).alloc (jR _) _⟩)
 obtain ⟨V1,hV1⟩:∃ W,w.alloc (.cells #[] 94)=W:=⟨_,rfl⟩
 rw [hV1] at HV con
 clear hl hn hr hr7 hok hn' hr' hbn hbr hnn hPst
 go_enter Tryz.func39,Tryz.ntmps39
 go_wp2_with fail
 refine con.mono ?_
 rintro e w2 ⟨rfl,rfl⟩
 clear con
 go_wp2_with fail
 go_loopw [7,9] (fun vo vi wr=>∃ (i:Nat) (c:List Cond) (v:Value),i<=n/\vi=.int .i64 i/\vo=v/\Hid (CR w i c v wr)) (fun _ vi _=>n - (intOf vi).toNat)
 case atStart=>exact ⟨0,[],_,by omega,rfl,rfl,HV⟩
 case round =>
  obtain ⟨i,c,v,hi,rfl,rfl,HC⟩:=hrel
  obtain ⟨va,vc,rfl⟩:=owned_shape HC.out.o
  have hsz:=HC.out.b.size
  by_cases hlt:i<n
  · obtain ⟨j1,E1,hj1⟩:=pick_nat l (10+(i:Int)).toNat (n:=4) (m:=4) rfl (by decide)
    obtain ⟨j2,E2,hj2⟩:=pick_nat l (11+(i:Int)).toNat (n:=6) (m:=6) rfl (by decide)
    obtain ⟨x,hx,hxm⟩:=nm4_at hj1
    have h3i:3+i<r.length:=by rw [HRR.out.1];omega
    obtain ⟨⟨xk,xn,xs⟩,hu⟩:∃ u,r[3+i]=u:=⟨_,rfl⟩
    have HU:=hid (show ValS ⟨xk,xn,xs⟩ by rw [<- hu];exact HRR.out.2 _ (List.getElem_mem _))
    have cn:=names_cell HN.out.1 hx
    have cr:=HR.out.1.val (3+i) h3i
    rw [hu] at cr
    simp only at cr
    have HX:=hid (show (w.cell? ⟨bn,on+j1,none⟩=some (.string x))/\w.cell? ⟨br,or_+(3+i) * 3,none⟩=some (.int .i64 xk)/\w.cell? ⟨br,or_+(3+i) * 3+1,none⟩=some (.int .i64 xn)/\w.cell? ⟨br,or_+(3+i) * 3+2,none⟩=some (.string xs) from ⟨cn,cr⟩)
    have HXM:=hid hxm
    have E1:=hid E1
    have E2:=hid E2
    clear cn cr hx hxm hu h3i
    go_upto_region 6 with (fail)
    refine wp_region_loose2 [([0,1,2,3,4,5,6,7,8,9,10,11,12,13,14,15,16,17,18],19),([],20),([],21)] (Below w.heap.size w) (Below wr.heap.size wr) (by kernel_rfl) (by kernel_rfl) (by kernel_rfl) (fun w1 w2 h b=>h.trans (b.mono h.size)) (Below.drew b0R) ?_
    apply wpSegs_cons (Below w.heap.size w) (NewOf 94 (condEnc ⟨x,1+j2,⟨xk,xn,xs⟩⟩) wr) (fun _ h=>h) (fun _ h=>HC.out.b.trans (h.mono hsz))
    case hq =>
     intro w0 hw0
     have ne:Nonempty (Wld (Below w0.heap.size w0)):=⟨⟨w0,Below.refl _ _⟩⟩
     have H0:=hid (HL.out.below hw0)
     have y0:=fun z:Wld (Below w0.heap.size w0)=>((hw0.trans (z.good.mono hw0.size)).cell (p:=⟨bn,on+j1,none⟩) HN.out.2).trans HX.out.1
     have y1:=fun z:Wld (Below w0.heap.size w0)=>((hw0.trans (z.good.mono hw0.size)).cell (p:=⟨br,or_+(3+i) * 3,none⟩) HR.out.2).trans HX.out.2.1
     have y2:=fun z:Wld (Below w0.heap.size w0)=>((hw0.trans (z.good.mono hw0.size)).cell (p:=⟨br,or_+(3+i) * 3+1,none⟩) HR.out.2).trans HX.out.2.2.1
     have y3:=fun z:Wld (Below w0.heap.size w0)=>((hw0.trans (z.good.mono hw0.size)).cell (p:=⟨br,or_+(3+i) * 3+2,none⟩) HR.out.2).trans HX.out.2.2.2
     simp only [pickOps,List.getElem?_cons_zero,List.getElem?_cons_succ]
     apply quiet_hide
     intro KE hKE
     repeat (go_big_quiet_step ((go_at_call 37;(with_reducible refine Calls.mono (pick_at (H0.out.below (Wld.good _)) _ (by omega) (by omega) _ (by decide) (by decide)) ?_);rintro e w2 ⟨rfl,rfl⟩;first|exact ⟨congrArg (fun q=>Ending.returned (Value.int .i64 q)) E1.out,class_below _ b0R (jR _)⟩|exact ⟨congrArg (fun q=>Ending.returned (Value.int .i64 q)) E2.out,class_below _ b0R (jR _)⟩)))
     refine wpQuiet_nil ?_
     exact hKE _ rfl
    case ho=>rfl
    case hop=>rfl
    case hw=>kernel_rfl
    case hDJ=>exact (fun _ _ _ h=>HC.out.b.trans (h.choose_spec.2.2.mono hsz))
    case hD=>exact fun u w1 w2 h hb=>h.below hb
    case hlo =>
     intro wa ba
     go_wp2_with fail
     exact ⟨wa.heap.size,rfl,heap_alloc_new _ _,ba.alloc ba.size _⟩
    case hrest =>
     rintro u w1 ⟨b,rfl,hb0,-⟩
     simp only [Act.put,List.setIfInBounds_toArray,List.set_cons_succ,List.set_cons_zero]
     refine wpSegs_cons0 (fun u w'=>CR w (i+1) (c ++ [⟨x,1+j2,⟨xk,xn,xs⟩⟩]) u w') ?sub3 rfl rfl ?want3 ?stable3 ?di3 ?lo3 ?on3
     case sub3 =>
      rintro w' ⟨_,_,_,h2⟩
      exact HC.out.b.trans (h2.mono hsz)
     case want3=>kernel_rfl
     case stable3=>exact fun u w1 w2 h hb=>h.below hb
     case di3=>exact fun _ _ _ h=>h.b
     case lo3 =>
      rintro wa ⟨b',e,h1,ba⟩
      obtain rfl:b=b':=by simpa using e
      clear e
      have CA:=HC.out.below ba
      refine wpList_append_own_at _ rfl _ _ 27 rfl w.heap.size 94 i0 _ 5 56 Tryz.underlying27 hi0 hz0 hz1 hz2 rfl (by decide) (.slice va i vc) i _ rfl CA.o ⟨b,0,none⟩ 1 1 (condEnc ⟨x,1+j2,⟨xk,xn,xs⟩⟩) rfl rfl (fun j u hj=>by rw [addr_add,jC h1];simpa using hj) (cond_cells _) (by unfold maxLen;omega) (by omega) (Nat.le_trans hsz ba.size) ?_
      intro v1 w3 o1 g1 hx1 at1
      exact wpList_nil ⟨rfl,v1,rfl,CA.next ⟨x,1+j2,⟨xk,xn,xs⟩⟩ ⟨HXM.out,⟨by show 1<=1+(j2:Int);omega,by show 1+(j2:Int)<=6;omega⟩,HU.out⟩ o1 g1⟩
     case on3 =>
      rintro u3 w3 -
      simp only [Act.put,List.setIfInBounds_toArray,List.set_cons_succ,List.set_cons_zero]
      refine wpSegs_assign (fun w1 w2 h hb=>h.below hb) (fun _ h=>h.b) rfl rfl (by kernel_rfl) rfl (fun w' h=>?_)
      have H:=hid h
      clear h
      simp only [Act.put,List.setIfInBounds_toArray,List.set_cons_succ,List.set_cons_zero]
      go_wp2_with fail
      go_roundw
      case rel=>exact ⟨i+1,_,_,by omega,by go_num,rfl,H⟩
      case measure=>simp [intOf];omega
  · have hin:i=n:=by omega
    have hlen:=HC.out.len
    go_wp2_with fail
    rw [HPST.out]
    refine ⟨⟨c,_,rfl,by omega,HC.out.ok,?_⟩,HC.out.b⟩
    rw [hlen]
    exact HC.out.o
end
end Go.Proofs.YtieojjngeibnmaaGreatDoor
