/- plain.own. -/
import Derived.Laws.EntriesVeiled
import Derived.Test.YtgemihkcihigpaaGreatDoorZD20
set_option linter.unusedVariables false
set_option linter.unusedSimpArgs false
set_option maxRecDepth 100000
set_option maxHeartbeats 64000000
namespace Go.Proofs.YtgemihkcihigpaaGreatDoor
open Go.Lib (hid)
section
open Go.RowKit
theorem below_set2 {B:Nat} {a w:World} {b:Nat} {x' y':Value} (h:Below B a w) (hB:B<=b):Below B a ((w.setCell ⟨b,0,none⟩ x').setCell ⟨b,1,none⟩ y') :=
 (h.setCell (p:=⟨b,0,none⟩) hB _).setCell (p:=⟨b,1,none⟩) hB _
theorem grown_set2 {w:World} {b:Nat} {x' y':Value}:w.grownBy ((w.setCell ⟨b,0,none⟩ x').setCell ⟨b,1,none⟩ y') (some b):=by
 have hb:Below b w ((w.setCell ⟨b,0,none⟩ x').setCell ⟨b,1,none⟩ y'):=below_set2 b0R (jR _)
 have e:∀ (w:World) (o:Nat) (v:Value) (c:Nat),c ≠ b->(w.setCell ⟨b,o,none⟩ v).heap[c]? = w.heap[c]? := fun w o v c h=>Below.heap_setCell w ⟨b,o,none⟩ v c (fun e=>h e)
 refine ⟨hb.os,hb.tape,hb.output,hb.size,fun k _ hk=>?_⟩
 have:k ≠ b:=fun e=>hk (by rw [e])
 rw [e _ _ _ _ this,e _ _ _ _ this]
theorem owns_apart {w w':World} {B b:Nat} {e T:TypeId} {sz:Nat} {v:Value} {n:Nat} {xs:List Value} {cs:Array Value} {fz:Nat × Nat} (h:w.ownsRow B e sz v n xs) (hb:w.heap[b]? = some (.cells cs T fz)) (hT:e ≠ T) (hg:w.grownBy w' (some b)):w'.ownsRow B e sz v n xs:=by
 refine h.kept hg ?_
 rcases h.2 with ⟨e,_⟩|⟨g,cap,cur,e,_,hgb,_⟩
 · left;rw [e];rfl
 · right
   rw [e]
   intro e2
   have e3:b=g:=by
    have:(some b:Option Nat)=some g:=by rw [<- e2];rfl
    exact jI this
   subst e3
   rw [hb] at hgb
   simp at hgb
   exact hT hgb.2.1.symm
def TabsOwn (B:Nat) (n1:Nat) (xs:List Value) (u:Value) (w:World):Prop:=∃ a c,u=.slice a n1 c/\w.ownsRow B 75 4 (.slice a n1 c) n1 xs
def RowsOwn (B:Nat) (R:List (List (List Val))) (u:Value) (w:World):Prop:=∃ a c outs,u=.slice a R.length c/\w.ownsRow B 41 1 (.slice a R.length c) R.length outs/\Copies2 B R R.length outs w/\OApart outs
def BothOwn (B:Nat) (n1:Nat) (xs:List Value) (R:List (List (List Val))) (u:Value) (w:World):Prop:=∃ ta tc ra rc,u=.agg #[.slice ta n1 tc,.slice ra R.length rc]/\TabsOwn B n1 xs (.slice ta n1 tc) w/\RowsOwn B R (.slice ra R.length rc) w
theorem TabsOwn.below {B n1:Nat} {xs:List Value} {u:Value} {w w':World} (h:TabsOwn B n1 xs u w) (hb:Below w.heap.size w w'):TabsOwn B n1 xs u w':=by
 obtain ⟨a,c,h1,h2⟩:=h
 exact ⟨a,c,h1,owns_below h2 hb⟩
theorem RowsOwn.below {B:Nat} {R:List (List (List Val))} {u:Value} {w w':World} (h:RowsOwn B R u w) (hb:Below w.heap.size w w'):RowsOwn B R u w':=by
 obtain ⟨a,c,outs,h1,h2,⟨h3,h4⟩,h5'⟩:=h
 refine ⟨a,c,outs,h1,owns_below h2 hb,⟨h3,fun t k1 k2=>?_⟩,h5'⟩
 obtain ⟨ys,h5,h6,h7⟩:=h4 t k1 k2
 exact ⟨ys,owns_below h5 hb,h6,fun t k1 k2=>owns_below (h7 t k1 k2) hb⟩
theorem own_any {p:Nat->Prop} {a1 a2:Option Addr} {c1 c2 n1:Nat} {xs:List Value} {R:List (List (List Val))} {w:World} (hnil:a1=none->n1=0) (hcell:RawAt w a1 xs) (hl:xs.length=n1 * 4) (h1:∀ u ∈ xs,u.oneCell'=true) (hn:n1 * 72<=140737488355328)
 (hR:SlV rowsR p w (.slice a2 R.length c2) R) (hRL:R.length<=1000000) (hRl:∀ x ∈ R,x.length<=1000000) (hRr:∀ x ∈ R,∀ y ∈ x,y.length<=1000000) :
 Calls Tryz.prog 87 #[.agg #[.slice a1 n1 c1,.slice a2 R.length c2]] w fun e w'=>∃ v1 v2 outs,e=.returned (.agg #[v1,v2])/\w'.ownsRow w.heap.size 75 4 v1 n1 xs/\w'.ownsRow w.heap.size 41 1 v2 R.length outs/\Copies2 w.heap.size R R.length outs w'/\Below w.heap.size w w'/\OApart outs:=by
 have hA:=allocs_get (w:=w) (os:=[.cells #[.slice a1 n1 c1,.slice a2 R.length c2] 27 (0,0),.cells #[.slice none 0 0,.slice none 0 0] 27 (0,0),.cells #[.func (.func 127) #[] #[]] 104 (0,0)]) rfl
 clear hA
 have HC:=hid hcell
 have HR:=hid hR
 have HN:=hid hnil
 have H1:=hid h1
 have HRl:=hid hRl
 have HRr:=hid hRr
 clear hcell hR hnil h1 hRl hRr
 go_enter Tryz.func87,Tryz.ntmps87
 go_upto_region 2 with (fail)
 generalize hW:World.alloc _ _=W
 have hA':allocs w [_,_,_]=W:=hW
 have hq:W.heap[w.heap.size]? = some (.cells #[.slice a1 n1 c1,.slice a2 R.length c2] 27 (0,0)):=allocs_get hA' 0 rfl
 have hr:W.heap[w.heap.size+1]? = some (.cells #[.slice none 0 0,.slice none 0 0] 27 (0,0)):=allocs_get hA' 1 rfl
 have hf:W.heap[w.heap.size+1+1]? = some (.cells #[.func (.func 127) #[] #[]] 104 (0,0)):=allocs_get hA' 2 rfl
 have hb:=allocs_self hA'
 have BW:=hid hb
 have QW:=hid hq
 have RW:=hid hr
 have FW:=hid hf
 have HCW:=hid (fun (ad:Addr) (e:a1=some ad) (j:Nat) (u:Value) (hj:xs[j]? = some u)=>cell_later hb (HC.out ad e j u hj))
 have HRW:=hid (HR.out.below hb)
 clear hA' hW hq hr hf hb HC HR
 apply wp_region_grow [4,5,6,7,8,9,10,11]
  [fun _ u _=>u=.pointer (some ⟨w.heap.size,0,none⟩),
   fun _ u _=>u=.slice a1 n1 c1,
   fun _ u w'=>TabsOwn w.heap.size n1 xs u w',
   fun _ u _=>u=.pointer (some ⟨w.heap.size,1,none⟩),
   fun _ u _=>u=.slice a2 R.length c2,
   fun _ u _=>u=.func (.func 130) #[] #[.pointer (some ⟨w.heap.size+1+1,0,none⟩)],
   fun _ u w'=>RowsOwn w.heap.size R u w',
   fun _ u w'=>BothOwn w.heap.size n1 xs R u w']
  (Below W.heap.size W)
 case hF =>
  intro v
  simp only [setAll,List.foldl_cons,List.foldl_nil,Act.put,List.setIfInBounds_toArray,List.set_cons_succ,List.set_cons_zero]
  exact rfl
 case hm=>kernel_rfl
 case hB=>kernel_rfl
 case hsz=>kernel_rfl
 case hC=>exact fun w1 w2 h b=>h.trans (b.mono h.size)
 case hw=>exact Below.drew b0R
 case hS =>
  intro D hD v u
  simp only [List.mem_cons,List.not_mem_nil,or_false] at hD
  rcases hD with rfl|rfl|rfl|rfl|rfl|rfl|rfl|rfl
  · exact fun w1 w2 h _=>h
  · exact fun w1 w2 h _=>h
  · exact fun w1 w2 h hb=>h.below hb
  · exact fun w1 w2 h _=>h
  · exact fun w1 w2 h _=>h
  · exact fun w1 w2 h _=>h
  · exact fun w1 w2 h hb=>h.below hb
  · exact fun w1 w2 h hb=>by obtain ⟨ta,tc,ra,rc,h0,h1,h2⟩:=h;exact ⟨ta,tc,ra,rc,h0,h1.below hb,h2.below hb⟩
 case hob =>
  apply grow_cons
  · intro v w1 h1 hd
    clear hd h1
    go_wp2_with fail
    exact Below.refl _ _
  apply grow_cons
  · intro v w1 h1 hd
    have g:v 4=.pointer (some ⟨w.heap.size,0,none⟩):=hd 0 _ _ _ rfl rfl rfl rfl
    clear hd
    rw [g]
    have q0:=jC ((h1.block _ (jB QW.out)).trans QW.out) 0
    simp only [gT,gZ,gS] at q0
    clear g h1
    go_wp2_with fail
    exact Below.refl _ _
  apply grow_cons
  · intro v w1 h1 hd
    have g:v 5=.slice a1 n1 c1:=hd 1 _ _ _ rfl rfl rfl rfl
    clear hd
    rw [g]
    have H1W:=hid h1
    have con:=clone_tabs (w:=w1) (c:=c1) (n:=n1) HN.out (fun ad e j u hj=>cell_later h1 (HCW.out ad e j u hj)) hl H1.out hn
    clear g h1
    go_wp2_with fail
    refine con.mono ?_
    rintro e w2 ⟨v',rfl,o2,b2⟩
    obtain ⟨ua,uc,hv,_⟩:=owns_shape o2
    subst hv
    have T2:=hid (show TabsOwn w.heap.size n1 xs (.slice ua n1 uc) w2 from ⟨ua,uc,rfl,owns_base o2 (Nat.le_trans BW.out.size H1W.out.size)⟩)
    have B2:=hid b2
    clear con o2 b2
    go_wp2_with fail
    first|exact ⟨B2.out,T2.out⟩|exact ⟨T2.out,B2.out⟩|exact B2.out
  apply grow_cons
  · intro v w1 h1 hd
    clear hd h1
    go_wp2_with fail
    exact Below.refl _ _
  apply grow_cons
  · intro v w1 h1 hd
    have g:v 7=.pointer (some ⟨w.heap.size,1,none⟩):=hd 3 _ _ _ rfl rfl rfl rfl
    clear hd
    rw [g]
    have q1:=jC ((h1.block _ (jB QW.out)).trans QW.out) 1
    simp only [gT,gZ,gS] at q1
    clear g h1
    go_wp2_with fail
    exact Below.refl _ _
  apply grow_cons
  · intro v w1 h1 hd
    clear hd h1
    go_wp2_with fail
    exact Below.refl _ _
  apply grow_cons
  · intro v w1 h1 hd
    have g1:v 8=.slice a2 R.length c2:=hd 4 _ _ _ rfl rfl rfl rfl
    have g2:v 9=.func (.func 130) #[] #[.pointer (some ⟨w.heap.size+1+1,0,none⟩)]:=hd 5 _ _ _ rfl rfl rfl rfl
    clear hd
    rw [g1,g2]
    have H1W:=hid h1
    have con:=lists_owned (w:=w1) (HRW.out.below h1) hRL HRl.out HRr.out ((h1.block _ (jB FW.out)).trans FW.out)
    clear g1 g2 h1
    go_wp2_with fail
    refine con.mono ?_
    rintro e w2 ⟨v',outs,rfl,o2,b2,c2,ap2⟩
    obtain ⟨ua,uc,hv,_⟩:=owns_shape o2
    subst hv
    have hsz:=Nat.le_trans BW.out.size H1W.out.size
    have T2:=hid (show RowsOwn w.heap.size R (.slice ua R.length uc) w2 from ⟨ua,uc,outs,rfl,owns_base o2 hsz,⟨c2.1,fun t k1 k2=>by
     obtain ⟨ys,h5,h6,h7⟩:=c2.2 t k1 k2
     exact ⟨ys,owns_base h5 hsz,h6,fun t k1 k2=>owns_base (h7 t k1 k2) hsz⟩⟩,ap2⟩)
    have B2:=hid b2
    clear con o2 b2 c2
    go_wp2_with fail
    first|exact ⟨B2.out,T2.out⟩|exact ⟨T2.out,B2.out⟩|exact B2.out
  apply grow_cons
  · intro v w1 h1 hd
    obtain ⟨ta,tc,g1,g1'⟩:TabsOwn w.heap.size n1 xs (v 6) w1:=hd 2 _ _ _ rfl rfl rfl rfl
    obtain ⟨ra,rc,outs,g2,g2'⟩:RowsOwn w.heap.size R (v 10) w1:=hd 6 _ _ _ rfl rfl rfl rfl
    clear hd
    rw [g1,g2]
    have T2:=hid (show TabsOwn w.heap.size n1 xs (.slice ta n1 tc) w1 from ⟨ta,tc,rfl,g1'⟩)
    have R2:=hid (show RowsOwn w.heap.size R (.slice ra R.length rc) w1 from ⟨ra,rc,outs,rfl,g2'⟩)
    clear g1 g2 g1' g2' h1
    go_wp2_with fail
    first|exact ⟨Below.refl _ _,ta,tc,ra,rc,rfl,T2.out,R2.out⟩|exact ⟨⟨ta,tc,ra,rc,rfl,T2.out,R2.out⟩,Below.refl _ _⟩
  exact grow_nil
 case hend =>
  intro v w6 h1 hd o ho
  obtain rfl:=jI (ho:some _=some o)
  obtain ⟨ta,tc,ra,rc,g,ht,hr⟩:BothOwn w.heap.size n1 xs R (v 11) w6:=hd 7 _ _ _ rfl rfl rfl
  clear hd ho
  rw [g]
  have HT:=hid ht
  have HRR:=hid hr
  have B6:=hid (BW.out.trans (h1.mono BW.out.size))
  have hr6:=(h1.block _ (jB RW.out)).trans RW.out
  have R6:=hid hr6
  have g0:=jC hr6 0
  have g1:=jC hr6 1
  have f0:=free_of hr6 0
  have f1:=free_of hr6 1
  simp only [gT,gZ,gS] at g0 g1
  clear g ht hr h1 hr6
  generalize v 4=y4,v 5=y5,v 6=y6,v 7=y7,v 8=y8,v 9=y9,v 10=y10
  go_wp2_with fail
  refine bodyPost_ret (v:=.agg #[.slice ta n1 tc,.slice ra R.length rc]) (by simp [results,Tryz.results87,go_sem,g0,g1,f0,f1]) rfl ?_
  obtain ⟨_,_,e1,t1⟩:=HT.out
  obtain ⟨_,_,outs,e2,t2,t3,tap⟩:=HRR.out
  cases e1
  cases e2
  have hg:=grown_set2 (w:=w6) (b:=w.heap.size+1) (x':=.slice ta n1 tc) (y':=.slice ra R.length rc)
  refine ⟨_,_,outs,rfl,owns_apart t1 R6.out (by decide) hg,owns_apart t2 R6.out (by decide) hg,⟨t3.1,fun t k1 k2=>?_⟩,below_set2 B6.out (by omega),tap⟩
  obtain ⟨ys,h5,h6,h7⟩:=t3.2 t k1 k2
  exact ⟨ys,owns_apart h5 R6.out (by decide) hg,h6,fun t k1 k2=>owns_apart (h7 t k1 k2) R6.out (by decide) hg⟩
end
section
open Go.RowKit
def okV (x:Val) (k:Int):Bool:=rightB x && (decide (x.kind=0) || decide (x.kind=k))
theorem check_ne {T:Tab} {r:List Val} (h:r.length ≠ T.cols.length):checkV T r=2:=by
 unfold checkV
 rw [if_pos h]
theorem check_ok {T:Tab} {r:List Val} (h:r.length=T.cols.length) (ha:∀ t (h1:t<r.length) (h2:t<T.cols.length),okV r[t] T.cols[t].2=true):checkV T r=0:=by
 unfold checkV
 rw [if_neg (by simpa using h),if_pos]
 rw [List.all_eq_true]
 intro x hx
 obtain ⟨t,ht,rfl⟩:=List.getElem_of_mem hx
 rw [List.getElem_zip]
 have hl:=ht
 rw [List.length_zip] at hl
 exact ha t (by omega) (by omega)
theorem check_bad {T:Tab} {r:List Val} (h:r.length=T.cols.length) (t:Nat) (h1:t<r.length) (h2:t<T.cols.length) (ha:okV r[t] T.cols[t].2=false):checkV T r=52:=by
 unfold checkV
 rw [if_neg (by simpa using h),if_neg]
 rw [List.all_eq_true]
 intro hh
 have hl:t<(r.zip T.cols).length:=by rw [List.length_zip];omega
 have:=hh _ (List.getElem_mem hl)
 rw [List.getElem_zip] at this
 have e:okV r[t] T.cols[t].2=true:=this
 rw [ha] at e
 cases e
theorem check_any {p q:Nat->Prop} {ac ai ar:Option Addr} {cc ci cr:Nat} {T:Tab} {r:List Val} {w:World} (hT:TabV p w (.agg #[.int .i64 T.id,.string T.name,.slice ac T.cols.length cc,.slice ai T.idx.length ci]) T) (hr:SlV valR q w (.slice ar r.length cr) r) :
 Calls Tryz.prog 89 #[.agg #[.int .i64 T.id,.string T.name,.slice ac T.cols.length cc,.slice ai T.idx.length ci],.slice ar r.length cr] w
  fun e w'=>e=.returned (.int .i64 (checkV T r))/\Below w.heap.size w w':=by
 obtain ⟨W1,hW1⟩:∃ W1,w.alloc (.cells #[.int .i64 T.id,.string T.name,.slice ac T.cols.length cc,.slice ai T.idx.length ci] 75)=W1:=⟨_,rfl⟩
 have hb1:Below w.heap.size w W1:=by rw [<- hW1];exact (b0R).alloc (jR _) _
 have hq:W1.heap[w.heap.size]? = some (.cells #[.int .i64 T.id,.string T.name,.slice ac T.cols.length cc,.slice ai T.idx.length ci] 75 (0,0)):=by rw [<- hW1];exact heap_alloc_new _ _
 have HR:=hid (hr.below hb1)
 have HBT:=hid hq
 have B1:=hid hb1
 have hC:SlV colR p W1 (.slice ac T.cols.length cc) T.cols:=by
  obtain ⟨_,_,_,_,e,h2,_⟩:=hT.below hb1
  cases e
  exact h2
 have HC:=hid hC
 have hrl:r.length<=140737488355328:=hr.row.2.2.1
 have hcl:T.cols.length<=140737488355328:=hC.row.2.2.1
 have t2:=jC hq 2
 simp only [gT,gZ,gS] at t2
 clear hT hr hq hb1 hC
 by_cases hne:r.length=T.cols.length
 · have HE:=hid hne
   have d1:decide (r.length=T.cols.length)=true:=decide_eq_true hne
   go_enter Tryz.func89,Tryz.ntmps89
   go_upto_region 1 with (fail)
   clear hW1
   go_wp2_with fail
   clear t2 d1
   go_loopw [15] (fun i wr=>∃ k:Nat,k<=r.length/\i=.int .i64 k/\Hid (∀ t (h1:t<r.length) (h2:t<T.cols.length),t<k->okV r[t] T.cols[t].2=true)/\Hid (Below W1.heap.size W1 wr)) (fun i _=>r.length - (intOf i).toNat)
   case atStart=>exact ⟨0,Nat.zero_le _,rfl,(fun t _ _ ht=>by omega),Below.refl _ _⟩
   case round =>
    obtain ⟨k,hk,rfl,HF,HB⟩:=hrel
    by_cases hlt:k<r.length
    · have hlc:k<T.cols.length:=by omega
      obtain ⟨_,_,_,hrow⟩:=HR.out.row
      obtain ⟨bb,oo,rfl,_,hbb⟩:=hrow.addr (by intro e;rw [e] at hlt;cases hlt)
      obtain ⟨_,_,_,crow⟩:=HC.out.row
      obtain ⟨bc,oc,rfl,_,hbc⟩:=crow.addr (by intro e;rw [e] at hlc;cases hlc)
      obtain ⟨x,hx⟩:∃ x,x=r[k]:=⟨_,rfl⟩
      obtain ⟨ck,hck⟩:∃ ck,ck=T.cols[k].2:=⟨_,rfl⟩
      have X:=hrow.val k hlt
      have Y:=(crow.col k hlc).2
      have HOK:=hid (show okV r[k] T.cols[k].2=okV x ck by rw [hx,hck])
      rw [<- hx] at X
      rw [<- hck] at Y
      clear hx hck hrow crow
      obtain ⟨xk,xn,xs⟩:=x
      have c0:=(HB.out.cell (p:=⟨bb,oo+k * 3,none⟩) hbb).trans X.1
      have c1:=(HB.out.cell (p:=⟨bb,oo+k * 3+1,none⟩) hbb).trans X.2.1
      have c2:=(HB.out.cell (p:=⟨bb,oo+k * 3+2,none⟩) hbb).trans X.2.2
      simp only at c0 c1 c2
      clear X
      go_upto_region 6 with (fail)
      generalize hW:World.alloc _ _=W
      have hbW:Below wr.heap.size wr W:=by rw [<- hW];exact (b0R).alloc (jR _) _
      have hqW:W.heap[wr.heap.size]? = some (.cells #[.int .i64 xk,.int .i64 xn,.string xs] 55 (0,0)):=by rw [<- hW];exact heap_alloc_new _ _
      have BW:=hid (HB.out.trans (hbW.mono HB.out.size))
      have QW:=hid hqW
      clear hW hbW hqW c0 c1 c2
      obtain ⟨f,hf⟩:∃ f,rightB ⟨xk,xn,xs⟩=f:=⟨_,rfl⟩
      have HRB:=hid hf
      have HCON:=hid (show ∀ z:World,Calls Tryz.prog 133 #[.agg #[.int .i64 xk,.int .i64 xn,.string xs]] z fun e w'=>e=.returned (.bool f)/\Below z.heap.size z w' from fun z=>by rw [<- hf];exact right_any ⟨xk,xn,xs⟩ z)
      clear hf
      refine wp_region_class (Below W.heap.size W) (by kernel_rfl) (by kernel_rfl) (Below.drew b0R) (fun ne=>?_)
      have q0:=fun z:Wld (Below W.heap.size W)=>jC ((z.good.block _ (jB QW.out)).trans QW.out) 0
      have q1:=fun z:Wld (Below W.heap.size W)=>jC ((z.good.block _ (jB QW.out)).trans QW.out) 1
      have q2:=fun z:Wld (Below W.heap.size W)=>jC ((z.good.block _ (jB QW.out)).trans QW.out) 2
      have t2:=fun z:Wld (Below W.heap.size W)=>jC (((BW.out.trans (z.good.mono BW.out.size)).block _ (jB HBT.out)).trans HBT.out) 2
      have y1:=fun z:Wld (Below W.heap.size W)=>((BW.out.trans (z.good.mono BW.out.size)).cell (p:=⟨bc,oc+k * 2+1,none⟩) hbc).trans Y
      simp only [gT,gZ,gS] at q0 q1 q2 t2
      cases f
      · have HO:=hid (show okV r[k] T.cols[k].2=false by rw [HOK.out];unfold okV;rw [HRB.out];rfl)
        repeat (go_big_quiet_step ((go_at_call 133;(refine Calls.mono (HCON.out _) ?_);rintro e w3 ⟨rfl,b3⟩;exact ⟨rfl,class_below _ b3 (jR _)⟩)))
        refine wpQuiet_nil ?_
        intro w3 b3
        have B3:=hid (BW.out.trans (b3.mono BW.out.size))
        clear b3 q0 q1 q2 t2 y1 ne
        have HFin:=hid (check_bad HE.out k hlt hlc HO.out)
        go_wp2_with fail
        go_ret
        exact ⟨by rw [HFin.out];rfl,B1.out.trans (B3.out.mono B1.out.size)⟩
      · by_cases hk0:xk=0
        · subst hk0
          have HO:=hid (show okV r[k] T.cols[k].2=true by rw [HOK.out];unfold okV;rw [HRB.out];rfl)
          repeat (go_big_quiet_step ((go_at_call 133;(refine Calls.mono (HCON.out _) ?_);rintro e w3 ⟨rfl,b3⟩;exact ⟨rfl,class_below _ b3 (jR _)⟩)))
          refine wpQuiet_nil ?_
          intro w3 b3
          have B3:=hid (BW.out.trans (b3.mono BW.out.size))
          clear b3 q0 q1 q2 t2 y1 ne
          go_wp2_with fail
          go_roundw
          case rel=>exact ⟨k+1,by omega,by go_num,(fun t h1 h2 ht=>by
           rcases Nat.lt_or_eq_of_le (Nat.le_of_lt_succ ht) with h|rfl
           · exact HF.out t h1 h2 h
           · exact HO.out),B3.out⟩
          case measure=>simp [intOf];omega
        · have e1:(xk != 0)=true:=by simpa using hk0
          by_cases hkc:xk=ck
          · subst hkc
            have HO:=hid (show okV r[k] T.cols[k].2=true by rw [HOK.out];unfold okV;rw [HRB.out];simp)
            repeat (go_big_quiet_step ((go_at_call 133;(refine Calls.mono (HCON.out _) ?_);rintro e w3 ⟨rfl,b3⟩;exact ⟨rfl,class_below _ b3 (jR _)⟩)))
            refine wpQuiet_nil ?_
            intro w3 b3
            have B3:=hid (BW.out.trans (b3.mono BW.out.size))
            clear b3 q0 q1 q2 t2 y1 ne
            go_wp2_with fail
            go_roundw
            case rel=>exact ⟨k+1,by omega,by go_num,(fun t h1 h2 ht=>by
             rcases Nat.lt_or_eq_of_le (Nat.le_of_lt_succ ht) with h|rfl
             · exact HF.out t h1 h2 h
             · exact HO.out),B3.out⟩
            case measure=>simp [intOf];omega
          · have HO:=hid (show okV r[k] T.cols[k].2=false by rw [HOK.out];unfold okV;rw [HRB.out];simp [hk0,hkc])
            have e2:(xk != ck)=true:=by simpa using hkc
            repeat (go_big_quiet_step ((go_at_call 133;(refine Calls.mono (HCON.out _) ?_);rintro e w3 ⟨rfl,b3⟩;exact ⟨rfl,class_below _ b3 (jR _)⟩)))
            refine wpQuiet_nil ?_
            intro w3 b3
            have B3:=hid (BW.out.trans (b3.mono BW.out.size))
            clear b3 q0 q1 q2 t2 y1 ne
            have HFin:=hid (check_bad HE.out k hlt hlc HO.out)
            go_wp2_with fail
            go_ret
            exact ⟨by rw [HFin.out];rfl,B1.out.trans (B3.out.mono B1.out.size)⟩
    · have hkn:k=r.length:=by omega
      subst hkn
      have HFin:=hid (check_ok HE.out (fun t h1 h2=>HF.out t h1 h2 h1))
      go_wp2_with fail
      go_ret
      exact ⟨by rw [HFin.out];rfl,B1.out.trans (HB.out.mono B1.out.size)⟩
 · have HE:=hid (check_ne hne)
   have d1:decide (r.length=T.cols.length)=false:=decide_eq_false hne
   go_enter Tryz.func89,Tryz.ntmps89
   go_upto_region 1 with (fail)
   clear hW1
   go_wp2_with fail
   go_ret
   exact ⟨by rw [HE.out];rfl,B1.out⟩
end
section
open Go.RowKit Go.Sort Go.Shelf Go.Lib
def Stab {α:Type} (f:α->α->Int) (L M:List α):Prop :=
 ∃ T:List (α × Nat),T.map (·.1)=M/\T.Perm L.zipIdx/\T.Pairwise fun x y=>ltT (fun a b:α × Nat=>decide (f a.1 b.1<0)) (·.2) y x=false
theorem below_sort {α:Type} [Inhabited α] {enc:α->Value} {w w2 w3:World} {g off:Nat} {d:Array α} (h:SW enc w2 g off d w3) (hg:w.heap.size<=g) (hb:Below w.heap.size w w2):Below w.heap.size w w3:=by
 obtain ⟨m,os,rfl⟩:=h
 refine ⟨hb.os,hb.tape,hb.output,?_,fun k hk=>?_⟩
 · have:=hb.size
   unfold sortWorld
   simp
   omega
 · have:=hb.size
   rw [sortWorld_block (by omega) (by omega)]
   exact hb.block k hk
theorem sw_keep {α:Type} [Inhabited α] {enc:α->Value} {w2 w3:World} {g off:Nat} {d:Array α} (h:SW enc w2 g off d w3):∀ k,k ≠ g->k<w2.heap.size->w3.heap[k]? = w2.heap[k]? := by
 obtain ⟨m,os,rfl⟩:=h
 exact fun k hk hl=>sortWorld_block hl hk
theorem sort_rows {B pb pt g cap cy:Nat} {r:Nat->Prop} {ay:Option Addr} {N:List Int} {outs:List Value} {L:List (List Val)} {w:World}
 (ho:w.ownsRow B 35 1 (.slice (some ⟨g,0,none⟩) L.length cap) L.length outs) (hc:Copies B L L.length outs w) (hL:L.length<=1000000) (hl:∀ x ∈ L,x.length<=1000000)
 (hr:∀ k,r k->k<B) (hN:SlV intR r w (.slice ay N.length cy) N) (hpb:w.cell? ⟨pb,0,none⟩=some (.slice ay N.length cy)) (hpt:w.cell? ⟨pt,0,none⟩=some (.func (.func 56) #[] #[])) (hK:KindsAt w) (h1:pb<B) (h2:pt<B) (h3:0<B) :
 Calls Tryz.prog 60 #[.slice (some ⟨g,0,none⟩) L.length cap,.func (.func 61) #[] #[.pointer (some ⟨pb,0,none⟩),.pointer (some ⟨pt,0,none⟩)]] w
  fun e w'=>e=.returned (.tuple #[])/\∃ M:List (List Val),M.length=L.length/\SlV rowR (fun k=>B<=k) w' (.slice (some ⟨g,0,none⟩) L.length cap) M/\Stab (fun A B=>cmpBy A B N) L M/\∀ w0:World,w0.heap.size<=B->Below w0.heap.size w0 w->Below w0.heap.size w0 w':=by
 obtain ⟨hgB,cur,hgb,hcap,hcapm,htk⟩:B<=g/\∃ cur:Array Value,w.heap[g]? = some (.cells cur 35 (0,0))/\L.length<=cap/\cap<=maxLen/\cur.toList.take (L.length * 1)=outs:=by
  rcases ho.2 with ⟨e,_⟩|⟨g',cap',cur,e,hB,hg,hn,hm,_,ht⟩
  · cases e
  · simp only [Value.slice.injEq,Option.some.injEq,Addr.mk.injEq] at e
    obtain ⟨⟨rfl,_,_⟩,_,rfl⟩:=e
    exact ⟨hB,cur,hg,hn,hm,ht⟩
 have hlt:g<w.heap.size:=jB hgb
 have hlen:outs.length=L.length:=hc.1
 have hok:∀ t (ht:t<L.length),SlV valR (fun k=>k ≠ g/\B<=k) w (outs[t]'(by omega)) L[t]:=fun t ht=>owns_val (hc.2 t (by omega) ht) (hl _ (List.getElem_mem ht)) hgb
 let mk:(t:Nat)->Elt B w g:=fun t=>if ht:t<L.length then ⟨outs[t]'(by omega),L[t],t,hok t ht⟩ else default
 obtain ⟨d0,hd0⟩:∃ d0:Array (Elt B w g),d0=((List.range L.length).map mk).toArray:=⟨_,rfl⟩
 have hsz:d0.size=L.length:=by rw [hd0];simp
 have hget:∀ t (ht:t<L.length),d0[t]! = ⟨outs[t]'(by omega),L[t],t,hok t ht⟩:=fun t ht=>by
  rw [getElem!_pos d0 t (by omega)]
  have:d0[t]'(by omega)=mk t:=by simp [hd0]
  rw [this]
  simp only [mk,dif_pos ht]
 have hH:Holds (fun x:Elt B w g=>x.v) w g 0 d0:=fun j hj=>by
  have hjl:j<L.length:=by omega
  rw [hget j hjl,Nat.zero_add]
  refine ⟨?_,free_of hgb j⟩
  rw [jC hgb]
  have e:outs[j]? = some (outs[j]'(by omega)):=List.getElem?_eq_getElem (by omega)
  have e2:(cur.toList.take (L.length * 1))[j]? = some (outs[j]'(by omega)):=by rw [htk];exact e
  rw [List.getElem?_take_of_lt (by omega),Array.getElem?_toList] at e2
  exact e2
 have con:=sortStable_s (α:=Elt B w g) (fun x=>x.v) (fun x y=>cmpBy x.l y.l N) 61 #[.pointer (some ⟨pb,0,none⟩),.pointer (some ⟨pt,0,none⟩)] g 0 cap w (enters_of Tryz.func61 (by kernel_rfl) rfl) (fun x=>x.tag) ((tot_cmpBy N).pull fun x:Elt B w g=>x.l).swo d0 w
  (elt_lays 0 d0.size (fun k hk=>by have:=hr k hk;omega) hN hpb hpt hK (by omega) (by omega) (by omega)) ⟨elt_one,hH,hlt⟩ (SW.start hH) (by omega)
  (fun p q h4 h5=>by rw [hget p (by omega),hget q (by omega)];exact h4)
 rw [hsz] at con
 refine Calls.mono con ?_
 rintro e w3 ⟨rfl,d',hsw,hp,hs⟩
 have hsz':d'.size=L.length:=hp.1.trans hsz
 refine ⟨rfl,d'.toList.map (·.l),by simp [hsz'],⟨some ⟨g,0,none⟩,cap,by simp [hsz'],by simp [hsz'];exact hcap,by simp [hsz'];omega,?_⟩,⟨d'.toList.map fun x=>(x.l,x.tag),by simp,?_,?_⟩,fun w0 h5 hb=>below_sort hsw (by omega) hb⟩
 · have hh:=hsw.holds hlt hH (by omega)
   have hsize:g<w3.heap.size:=jL hlt hsw.le
   refine Or.inr ⟨g,0,rfl,hgB,⟨hsize,fun j hj=>(hh j (by simpa [rowR,sliceR] using hj)).2⟩,fun t ht=>?_⟩
   have ht':t<d'.size:=by simpa using ht
   have h6:=(hh t ht').1
   rw [getElem!_pos d' t ht'] at h6
   have hk6:=d'[t].ok.keep (fun k hk hl=>sw_keep hsw k hk.1 hl)
   obtain ⟨ra,rc,e6,h7,h8,h9⟩:=hk6
   refine ⟨[d'[t].v],fun j hj=>?_,ra,rc,?_,?_,?_,?_⟩
   · have hj0:j=0:=by simp [rowR,sliceR] at hj;exact hj
     subst hj0
     simpa [rowR,sliceR] using h6
   · simp [e6]
   · simpa using h7
   · simpa using h8
   · have:=h9.weaken (q:=fun k=>B<=k) fun k hk=>hk.2
     simpa using this
 · have hperm:d'.toList.Perm d0.toList:=by
    have h7:=hp.2.2
    have e1:(d'.extract 0 L.length)=d':=by rw [<- hsz'];simp
    have e2:(d0.extract 0 L.length)=d0:=by rw [<- hsz];simp
    rwa [e1,e2] at h7
   have h8:=hperm.map fun x:Elt B w g=>(x.l,x.tag)
   have e:(d0.toList.map fun x:Elt B w g=>(x.l,x.tag))=L.zipIdx:=by
    apply List.ext_getElem
    · simp [hsz]
    · intro t h9 h10
      have ht:t<L.length:=by simpa using h10
      have hg2:=hget t ht
      rw [getElem!_pos d0 t (by omega)] at hg2
      simp [hg2]
   rwa [e] at h8
 · rw [List.pairwise_map,List.pairwise_iff_getElem]
   intro i j hi hj hij
   have hi':i<d'.size:=by simpa using hi
   have hj':j<d'.size:=by simpa using hj
   have h9:=hs i j (Nat.zero_le _) hij (by omega)
   rw [getElem!_pos d' i hi',getElem!_pos d' j hj'] at h9
   rw [Array.getElem_toList,Array.getElem_toList]
   exact h9
theorem sorted_any {p r:Nat->Prop} {a ay:Option Addr} {c cy:Nat} {L:List (List Val)} {N:List Int} {w:World} (h:SlV rowR p w (.slice a L.length c) L) (hN:SlV intR r w (.slice ay N.length cy) N) (hL:L.length<=1000000) (hl:∀ x ∈ L,x.length<=1000000) (hK:KindsAt w) :
 Calls Tryz.prog 27 #[.slice a L.length c,.slice ay N.length cy] w fun e w'=>∃ a' c' M,e=.returned (.slice a' L.length c')/\Below w.heap.size w w'/\List.length M=L.length/\SlV rowR (fun k=>w.heap.size<=k) w' (.slice a' L.length c') M/\Stab (fun A B=>cmpBy A B N) L M:=by
 have H:=hid h
 have HN:=hid hN
 have HK:=hid hK
 clear h hN hK
 go_enter Tryz.func27,Tryz.ntmps27
 go_upto_region 2 with (fail)
 generalize hW:World.alloc _ _=W
 have hA:allocs w [_,_]=W:=hW
 have k0:W.heap[w.heap.size]? = some _:=allocs_get hA 0 rfl
 have k1:W.heap[w.heap.size+1]? = some _:=allocs_get hA 1 rfl
 have hb:=allocs_self hA
 have hsz:W.heap.size=w.heap.size+2:=by rw [<- hA];exact allocs_size _ _
 have K0:=hid k0
 have K1:=hid k1
 have B1:=hid hb
 have S1:=hid hsz
 have HW:=hid (H.out.below hb)
 have HNW:=hid (HN.out.below hb).bound
 have HKW:=hid (HK.out.below hb)
 clear hW hA k0 k1 hb hsz
 go_wp2_with fail
 refine (rows_copied HW.out hL hl).mono ?_
 rintro e w2 ⟨v,outs,rfl,o2,b2,c2⟩
 obtain ⟨a',c',hv,hn',hs'⟩:=owns_shape o2
 rw [hv] at o2 ⊢
 have O2:=hid o2
 have B2:=hid b2
 have C2:=hid c2
 clear o2 b2 c2 hv
 have hlk:0<W.heap.size:=World.block_lt_of_cell? W _ HKW.out.1
 rcases a' with _|ad
 · have h0:=hn' rfl
   obtain rfl:L=[]:=List.eq_nil_of_length_eq_zero h0
   have BX:=hid (B1.out.trans (B2.out.mono B1.out.size))
   clear hn' hs' h0
   go_wp2_with fail
   refine (ssf_nil c' _ _).mono ?_
   rintro e w3 ⟨rfl,rfl⟩
   go_wp2_with fail
   go_ret
   exact ⟨none,c',[],rfl,BX.out,rfl,⟨none,c',rfl,Nat.zero_le _,by simp,RowAt.nil⟩,⟨[],rfl,List.Perm.refl _,List.Pairwise.nil⟩⟩
 · obtain ⟨g,off,sp⟩:=ad
   have hoff:off=0/\sp=none:=by
    rcases O2.out.2 with ⟨e,_⟩|⟨g',cap',cur,e,_⟩
    · cases e
    · simp only [Value.slice.injEq,Option.some.injEq,Addr.mk.injEq] at e
      exact ⟨e.1.2.1,e.1.2.2⟩
   obtain ⟨rfl,rfl⟩:=hoff
   have hpb:=(B2.out.cell (p:=⟨w.heap.size,0,none⟩) (by rw [S1.out];exact Nat.lt_add_of_pos_right (by decide))).trans (jC K0.out 0)
   have hpt:=(B2.out.cell (p:=⟨w.heap.size+1,0,none⟩) (by rw [S1.out];exact Nat.lt_succ_self _)).trans (jC K1.out 0)
   simp only [List.getElem?_toArray,List.getElem?_cons_zero] at hpb hpt
   have con:=sort_rows O2.out C2.out hL hl (fun k hk=>hk.2) (HNW.out.below B2.out) hpb hpt (HKW.out.below B2.out) (by rw [S1.out];omega) (by rw [S1.out];omega) hlk
   clear hn' hs' hpb hpt hlk
   go_wp2_with fail
   refine con.mono ?_
   rintro e w3 ⟨rfl,M,hM,hs3,hst,hb3⟩
   have X3:=hid (show _/\_/\_/\_ from ⟨hM,hs3,hst,hb3 w (by rw [S1.out];omega) (B1.out.trans (B2.out.mono B1.out.size))⟩)
   clear con hM hs3 hst hb3
   go_wp2_with fail
   go_ret
   exact ⟨_,_,M,rfl,X3.out.2.2.2,X3.out.1,X3.out.2.1.weaken fun k hk=>by have:=S1.out;omega,X3.out.2.2.1⟩
end
section
open Go.RowKit
def allN (p:Nat->Bool) (n:Nat):Bool:=(List.range n).all p
theorem allN_hit {p:Nat->Bool} {n:Nat} (h:∀ t,t<n->p t=true):allN p n=true:=by
 unfold allN
 rw [List.all_eq_true]
 exact fun t ht=>h t (List.mem_range.1 ht)
theorem allN_miss {p:Nat->Bool} {n k:Nat} (hk:k<n) (h:p k=false):allN p n=false:=by
 unfold allN
 rw [List.all_eq_false]
 exact ⟨k,List.mem_range.2 hk,by rw [h];simp⟩
theorem eqf_val {a a':Option Addr} {n m c c' g:Nat} {cb:Array Value} {x0:Nat->Int} {x1:Nat->Int} {x2:Nat->ByteArray} {y0:Nat->Int} {y1:Nat->Int} {y2:Nat->ByteArray} (p:Nat->Bool) {w:World} (eg:∀ args w,(callFunc g args).run Tryz.prog w=.ok (.enter g args) w) (hn:n<=140737488355328) (hm:m<=140737488355328)
 (ha:0<n->∃ b off,a=some ⟨b,off,none⟩/\b<w.heap.size/\∀ t,t<n->w.cell? ⟨b,off+t * 3,none⟩=some (.int .i64 (x0 t))/\w.cell? ⟨b,off+t * 3+1,none⟩=some (.int .i64 (x1 t))/\w.cell? ⟨b,off+t * 3+2,none⟩=some (.string (x2 t)))
 (hb:0<m->∃ b off,a'=some ⟨b,off,none⟩/\b<w.heap.size/\∀ t,t<m->w.cell? ⟨b,off+t * 3,none⟩=some (.int .i64 (y0 t))/\w.cell? ⟨b,off+t * 3+1,none⟩=some (.int .i64 (y1 t))/\w.cell? ⟨b,off+t * 3+2,none⟩=some (.string (y2 t)))
 (hp:n=m->∀ t,t<n->∀ w1,Below w.heap.size w w1->Calls Tryz.prog g (#[.agg #[.int .i64 (x0 t),.int .i64 (x1 t),.string (x2 t)],.agg #[.int .i64 (y0 t),.int .i64 (y1 t),.string (y2 t)]] ++ cb) w1 fun e w2=>e=.returned (.bool (p t))/\Below w1.heap.size w1 w2) :
 Calls Tryz.prog 120 #[.slice a n c,.slice a' m c',.func (.func g) #[] cb] w fun e w'=>e=.returned (.bool (decide (n=m) && allN p n))/\Below w.heap.size w w':=by
 have HX:=hid ha
 have HY:=hid hb
 have HP:=hid hp
 clear ha hb hp
 by_cases hne:n=m
 · subst hne
   go_enter Tryz.func120,Tryz.ntmps120
   go_wp2_with fail
   go_loopw [17] (fun i wr=>∃ k:Nat,k<=n/\i=.int .i64 k/\Hid (∀ t,t<k->p t=true)/\Hid (Below w.heap.size w wr)) (fun i _=>n - (intOf i).toNat)
   case atStart=>exact ⟨0,Nat.zero_le _,rfl,(fun t ht=>by omega),Below.refl _ _⟩
   case round =>
   obtain ⟨k,hk,rfl,HF,HB⟩:=hrel
   by_cases hlt:k<n
   · obtain ⟨b,off,rfl,hbl,hcs⟩:=HX.out (by omega)
     obtain ⟨b',off',rfl,hbl',hcs'⟩:=HY.out (by omega)
     have ⟨h0,h1,h2⟩:=hcs k hlt
     have ⟨g0,g1,g2⟩:=hcs' k hlt
     have c0:=(HB.out.cell (p:=⟨b,off+k * 3,none⟩) hbl).trans h0
     have c1:=(HB.out.cell (p:=⟨b,off+k * 3+1,none⟩) hbl).trans h1
     have c2:=(HB.out.cell (p:=⟨b,off+k * 3+2,none⟩) hbl).trans h2
     have d0:=(HB.out.cell (p:=⟨b',off'+k * 3,none⟩) hbl').trans g0
     have d1:=(HB.out.cell (p:=⟨b',off'+k * 3+1,none⟩) hbl').trans g1
     have d2:=(HB.out.cell (p:=⟨b',off'+k * 3+2,none⟩) hbl').trans g2
     have hl1:b<wr.heap.size:=jL hbl HB.out.size
     have hl2:b'<wr.heap.size:=jL hbl' HB.out.size
     have con:=HP.out (by trivial) k hlt
     clear hcs hcs' h0 g0 h1 g1 h2 g2
     generalize hpk:p k=f at con
     have HPK:=hid hpk
     clear hpk
     go_wp2_with fail
     refine (con _ ?hb2).mono ?_
     case hb2=>first|exact HB.out|exact (HB.out.alloc HB.out.size _).alloc (Nat.le_trans HB.out.size (by show _<=(Array.push _ _).size;simp)) _
     rintro e w2 ⟨rfl,b2⟩
     have B2:=hid (show Below w.heap.size w w2 from by
      first
       | exact HB.out.trans (b2.mono HB.out.size)
       | exact ((HB.out.alloc HB.out.size _).alloc (Nat.le_trans HB.out.size (by show _<=(Array.push _ _).size;simp)) _).trans (b2.mono (Nat.le_trans HB.out.size (by show _<=(Array.push (Array.push _ _) _).size;simp;omega))))
     clear b2 con c0 d0 c1 d1 c2 d2 hl1 hl2
     cases f
     · have HE:=hid (allN_miss hlt HPK.out)
       go_wp2_with fail
       go_ret
       exact ⟨by rw [HE.out];rfl,B2.out⟩
     · go_wp2_with fail
       go_roundw
       case rel=>exact ⟨k+1,by omega,by go_num,(fun t ht=>by
        rcases Nat.lt_or_eq_of_le (Nat.le_of_lt_succ ht) with h|rfl
        · exact HF.out t h
        · exact HPK.out),B2⟩
       case measure=>simp [intOf];omega
   · obtain rfl:k=n:=by omega
     have HE:=hid (allN_hit HF.out)
     go_wp2_with fail
     go_ret
     exact ⟨by rw [HE.out];rfl,HB.out⟩
 · have d1:decide (n=m)=false:=decide_eq_false hne
   have HE:=hid (show (decide (n=m) && allN p n)=false by rw [d1];rfl)
   go_enter Tryz.func120,Tryz.ntmps120
   go_wp2_with fail
   go_ret
   exact ⟨by rw [HE.out];rfl,Below.refl _ _⟩
theorem eqf_row {a a':Option Addr} {n m c c' g:Nat} {cb:Array Value} {x0:Nat->Value} {y0:Nat->Value} (p:Nat->Bool) {w:World} (eg:∀ args w,(callFunc g args).run Tryz.prog w=.ok (.enter g args) w) (hn:n<=140737488355328) (hm:m<=140737488355328)
 (ha:0<n->∃ b off,a=some ⟨b,off,none⟩/\b<w.heap.size/\∀ t,t<n->w.cell? ⟨b,off+t,none⟩=some (x0 t))
 (hb:0<m->∃ b off,a'=some ⟨b,off,none⟩/\b<w.heap.size/\∀ t,t<m->w.cell? ⟨b,off+t,none⟩=some (y0 t))
 (hp:n=m->∀ t,t<n->∀ w1,Below w.heap.size w w1->Calls Tryz.prog g (#[x0 t,y0 t] ++ cb) w1 fun e w2=>e=.returned (.bool (p t))/\Below w1.heap.size w1 w2) :
 Calls Tryz.prog 63 #[.slice a n c,.slice a' m c',.func (.func g) #[] cb] w fun e w'=>e=.returned (.bool (decide (n=m) && allN p n))/\Below w.heap.size w w':=by
 have HX:=hid ha
 have HY:=hid hb
 have HP:=hid hp
 clear ha hb hp
 by_cases hne:n=m
 · subst hne
   go_enter Tryz.func63,Tryz.ntmps63
   go_wp2_with fail
   go_loopw [17] (fun i wr=>∃ k:Nat,k<=n/\i=.int .i64 k/\Hid (∀ t,t<k->p t=true)/\Hid (Below w.heap.size w wr)) (fun i _=>n - (intOf i).toNat)
   case atStart=>exact ⟨0,Nat.zero_le _,rfl,(fun t ht=>by omega),Below.refl _ _⟩
   case round =>
   obtain ⟨k,hk,rfl,HF,HB⟩:=hrel
   by_cases hlt:k<n
   · obtain ⟨b,off,rfl,hbl,hcs⟩:=HX.out (by omega)
     obtain ⟨b',off',rfl,hbl',hcs'⟩:=HY.out (by omega)
     have h0:=hcs k hlt
     have g0:=hcs' k hlt
     have c0:=(HB.out.cell (p:=⟨b,off+k,none⟩) hbl).trans h0
     have d0:=(HB.out.cell (p:=⟨b',off'+k,none⟩) hbl').trans g0
     have hl1:b<wr.heap.size:=jL hbl HB.out.size
     have hl2:b'<wr.heap.size:=jL hbl' HB.out.size
     have con:=HP.out (by trivial) k hlt
     clear hcs hcs' h0 g0
     generalize hpk:p k=f at con
     have HPK:=hid hpk
     clear hpk
     go_wp2_with fail
     refine (con _ ?hb2).mono ?_
     case hb2=>first|exact HB.out|exact (HB.out.alloc HB.out.size _).alloc (Nat.le_trans HB.out.size (by show _<=(Array.push _ _).size;simp)) _
     rintro e w2 ⟨rfl,b2⟩
     have B2:=hid (show Below w.heap.size w w2 from by
      first
       | exact HB.out.trans (b2.mono HB.out.size)
       | exact ((HB.out.alloc HB.out.size _).alloc (Nat.le_trans HB.out.size (by show _<=(Array.push _ _).size;simp)) _).trans (b2.mono (Nat.le_trans HB.out.size (by show _<=(Array.push (Array.push _ _) _).size;simp;omega))))
     clear b2 con c0 d0 hl1 hl2
     cases f
     · have HE:=hid (allN_miss hlt HPK.out)
       go_wp2_with fail
       go_ret
       exact ⟨by rw [HE.out];rfl,B2.out⟩
     · go_wp2_with fail
       go_roundw
       case rel=>exact ⟨k+1,by omega,by go_num,(fun t ht=>by
        rcases Nat.lt_or_eq_of_le (Nat.le_of_lt_succ ht) with h|rfl
        · exact HF.out t h
        · exact HPK.out),B2⟩
       case measure=>simp [intOf];omega
   · obtain rfl:k=n:=by omega
     have HE:=hid (allN_hit HF.out)
     go_wp2_with fail
     go_ret
     exact ⟨by rw [HE.out];rfl,HB.out⟩
 · have d1:decide (n=m)=false:=decide_eq_false hne
   have HE:=hid (show (decide (n=m) && allN p n)=false by rw [d1];rfl)
   go_enter Tryz.func63,Tryz.ntmps63
   go_wp2_with fail
   go_ret
   exact ⟨by rw [HE.out];rfl,Below.refl _ _⟩
theorem eqf_ix {a a':Option Addr} {n m c c' g:Nat} {cb:Array Value} {x0:Nat->ByteArray} {x1a:Nat->Option Addr} {x1n x1c:Nat->Nat} {x2:Nat->Int} {y0:Nat->ByteArray} {y1a:Nat->Option Addr} {y1n y1c:Nat->Nat} {y2:Nat->Int} (p:Nat->Bool) {w:World} (eg:∀ args w,(callFunc g args).run Tryz.prog w=.ok (.enter g args) w) (hn:n<=140737488355328) (hm:m<=140737488355328)
 (ha:0<n->∃ b off,a=some ⟨b,off,none⟩/\b<w.heap.size/\∀ t,t<n->w.cell? ⟨b,off+t * 3,none⟩=some (.string (x0 t))/\w.cell? ⟨b,off+t * 3+1,none⟩=some (.slice (x1a t) (x1n t) (x1c t))/\w.cell? ⟨b,off+t * 3+2,none⟩=some (.int .i64 (x2 t)))
 (hb:0<m->∃ b off,a'=some ⟨b,off,none⟩/\b<w.heap.size/\∀ t,t<m->w.cell? ⟨b,off+t * 3,none⟩=some (.string (y0 t))/\w.cell? ⟨b,off+t * 3+1,none⟩=some (.slice (y1a t) (y1n t) (y1c t))/\w.cell? ⟨b,off+t * 3+2,none⟩=some (.int .i64 (y2 t)))
 (hp:n=m->∀ t,t<n->∀ w1,Below w.heap.size w w1->Calls Tryz.prog g (#[.agg #[.string (x0 t),.slice (x1a t) (x1n t) (x1c t),.int .i64 (x2 t)],.agg #[.string (y0 t),.slice (y1a t) (y1n t) (y1c t),.int .i64 (y2 t)]] ++ cb) w1 fun e w2=>e=.returned (.bool (p t))/\Below w1.heap.size w1 w2) :
 Calls Tryz.prog 75 #[.slice a n c,.slice a' m c',.func (.func g) #[] cb] w fun e w'=>e=.returned (.bool (decide (n=m) && allN p n))/\Below w.heap.size w w':=by
 have HX:=hid ha
 have HY:=hid hb
 have HP:=hid hp
 clear ha hb hp
 by_cases hne:n=m
 · subst hne
   go_enter Tryz.func75,Tryz.ntmps75
   go_wp2_with fail
   go_loopw [17] (fun i wr=>∃ k:Nat,k<=n/\i=.int .i64 k/\Hid (∀ t,t<k->p t=true)/\Hid (Below w.heap.size w wr)) (fun i _=>n - (intOf i).toNat)
   case atStart=>exact ⟨0,Nat.zero_le _,rfl,(fun t ht=>by omega),Below.refl _ _⟩
   case round =>
   obtain ⟨k,hk,rfl,HF,HB⟩:=hrel
   by_cases hlt:k<n
   · obtain ⟨b,off,rfl,hbl,hcs⟩:=HX.out (by omega)
     obtain ⟨b',off',rfl,hbl',hcs'⟩:=HY.out (by omega)
     have ⟨h0,h1,h2⟩:=hcs k hlt
     have ⟨g0,g1,g2⟩:=hcs' k hlt
     have c0:=(HB.out.cell (p:=⟨b,off+k * 3,none⟩) hbl).trans h0
     have c1:=(HB.out.cell (p:=⟨b,off+k * 3+1,none⟩) hbl).trans h1
     have c2:=(HB.out.cell (p:=⟨b,off+k * 3+2,none⟩) hbl).trans h2
     have d0:=(HB.out.cell (p:=⟨b',off'+k * 3,none⟩) hbl').trans g0
     have d1:=(HB.out.cell (p:=⟨b',off'+k * 3+1,none⟩) hbl').trans g1
     have d2:=(HB.out.cell (p:=⟨b',off'+k * 3+2,none⟩) hbl').trans g2
     have hl1:b<wr.heap.size:=jL hbl HB.out.size
     have hl2:b'<wr.heap.size:=jL hbl' HB.out.size
     have con:=HP.out (by trivial) k hlt
     clear hcs hcs' h0 g0 h1 g1 h2 g2
     generalize hpk:p k=f at con
     have HPK:=hid hpk
     clear hpk
     go_wp2_with fail
     refine (con _ ?hb2).mono ?_
     case hb2=>first|exact HB.out|exact (HB.out.alloc HB.out.size _).alloc (Nat.le_trans HB.out.size (by show _<=(Array.push _ _).size;simp)) _
     rintro e w2 ⟨rfl,b2⟩
     have B2:=hid (show Below w.heap.size w w2 from by
      first
       | exact HB.out.trans (b2.mono HB.out.size)
       | exact ((HB.out.alloc HB.out.size _).alloc (Nat.le_trans HB.out.size (by show _<=(Array.push _ _).size;simp)) _).trans (b2.mono (Nat.le_trans HB.out.size (by show _<=(Array.push (Array.push _ _) _).size;simp;omega))))
     clear b2 con c0 d0 c1 d1 c2 d2 hl1 hl2
     cases f
     · have HE:=hid (allN_miss hlt HPK.out)
       go_wp2_with fail
       go_ret
       exact ⟨by rw [HE.out];rfl,B2.out⟩
     · go_wp2_with fail
       go_roundw
       case rel=>exact ⟨k+1,by omega,by go_num,(fun t ht=>by
        rcases Nat.lt_or_eq_of_le (Nat.le_of_lt_succ ht) with h|rfl
        · exact HF.out t h
        · exact HPK.out),B2⟩
       case measure=>simp [intOf];omega
   · obtain rfl:k=n:=by omega
     have HE:=hid (allN_hit HF.out)
     go_wp2_with fail
     go_ret
     exact ⟨by rw [HE.out];rfl,HB.out⟩
 · have d1:decide (n=m)=false:=decide_eq_false hne
   have HE:=hid (show (decide (n=m) && allN p n)=false by rw [d1];rfl)
   go_enter Tryz.func75,Tryz.ntmps75
   go_wp2_with fail
   go_ret
   exact ⟨by rw [HE.out];rfl,Below.refl _ _⟩
theorem eqf_tab {a a':Option Addr} {n m c c' g:Nat} {cb:Array Value} {x0:Nat->Int} {x1:Nat->ByteArray} {x2a:Nat->Option Addr} {x2n x2c:Nat->Nat} {x3a:Nat->Option Addr} {x3n x3c:Nat->Nat} {y0:Nat->Int} {y1:Nat->ByteArray} {y2a:Nat->Option Addr} {y2n y2c:Nat->Nat} {y3a:Nat->Option Addr} {y3n y3c:Nat->Nat} (p:Nat->Bool) {w:World} (eg:∀ args w,(callFunc g args).run Tryz.prog w=.ok (.enter g args) w) (hn:n<=140737488355328) (hm:m<=140737488355328)
 (ha:0<n->∃ b off,a=some ⟨b,off,none⟩/\b<w.heap.size/\∀ t,t<n->w.cell? ⟨b,off+t * 4,none⟩=some (.int .i64 (x0 t))/\w.cell? ⟨b,off+t * 4+1,none⟩=some (.string (x1 t))/\w.cell? ⟨b,off+t * 4+2,none⟩=some (.slice (x2a t) (x2n t) (x2c t))/\w.cell? ⟨b,off+t * 4+3,none⟩=some (.slice (x3a t) (x3n t) (x3c t)))
 (hb:0<m->∃ b off,a'=some ⟨b,off,none⟩/\b<w.heap.size/\∀ t,t<m->w.cell? ⟨b,off+t * 4,none⟩=some (.int .i64 (y0 t))/\w.cell? ⟨b,off+t * 4+1,none⟩=some (.string (y1 t))/\w.cell? ⟨b,off+t * 4+2,none⟩=some (.slice (y2a t) (y2n t) (y2c t))/\w.cell? ⟨b,off+t * 4+3,none⟩=some (.slice (y3a t) (y3n t) (y3c t)))
 (hp:n=m->∀ t,t<n->∀ w1,Below w.heap.size w w1->Calls Tryz.prog g (#[.agg #[.int .i64 (x0 t),.string (x1 t),.slice (x2a t) (x2n t) (x2c t),.slice (x3a t) (x3n t) (x3c t)],.agg #[.int .i64 (y0 t),.string (y1 t),.slice (y2a t) (y2n t) (y2c t),.slice (y3a t) (y3n t) (y3c t)]] ++ cb) w1 fun e w2=>e=.returned (.bool (p t))/\Below w1.heap.size w1 w2) :
 Calls Tryz.prog 77 #[.slice a n c,.slice a' m c',.func (.func g) #[] cb] w fun e w'=>e=.returned (.bool (decide (n=m) && allN p n))/\Below w.heap.size w w':=by
 have HX:=hid ha
 have HY:=hid hb
 have HP:=hid hp
 clear ha hb hp
 by_cases hne:n=m
 · subst hne
   go_enter Tryz.func77,Tryz.ntmps77
   go_wp2_with fail
   go_loopw [17] (fun i wr=>∃ k:Nat,k<=n/\i=.int .i64 k/\Hid (∀ t,t<k->p t=true)/\Hid (Below w.heap.size w wr)) (fun i _=>n - (intOf i).toNat)
   case atStart=>exact ⟨0,Nat.zero_le _,rfl,(fun t ht=>by omega),Below.refl _ _⟩
   case round =>
   obtain ⟨k,hk,rfl,HF,HB⟩:=hrel
   by_cases hlt:k<n
   · obtain ⟨b,off,rfl,hbl,hcs⟩:=HX.out (by omega)
     obtain ⟨b',off',rfl,hbl',hcs'⟩:=HY.out (by omega)
     have ⟨h0,h1,h2,h3⟩:=hcs k hlt
     have ⟨g0,g1,g2,g3⟩:=hcs' k hlt
     have c0:=(HB.out.cell (p:=⟨b,off+k * 4,none⟩) hbl).trans h0
     have c1:=(HB.out.cell (p:=⟨b,off+k * 4+1,none⟩) hbl).trans h1
     have c2:=(HB.out.cell (p:=⟨b,off+k * 4+2,none⟩) hbl).trans h2
     have c3:=(HB.out.cell (p:=⟨b,off+k * 4+3,none⟩) hbl).trans h3
     have d0:=(HB.out.cell (p:=⟨b',off'+k * 4,none⟩) hbl').trans g0
     have d1:=(HB.out.cell (p:=⟨b',off'+k * 4+1,none⟩) hbl').trans g1
     have d2:=(HB.out.cell (p:=⟨b',off'+k * 4+2,none⟩) hbl').trans g2
     have d3:=(HB.out.cell (p:=⟨b',off'+k * 4+3,none⟩) hbl').trans g3
     have hl1:b<wr.heap.size:=jL hbl HB.out.size
     have hl2:b'<wr.heap.size:=jL hbl' HB.out.size
     have con:=HP.out (by trivial) k hlt
     clear hcs hcs' h0 g0 h1 g1 h2 g2 h3 g3
     generalize hpk:p k=f at con
     have HPK:=hid hpk
     clear hpk
     go_wp2_with fail
     refine (con _ ?hb2).mono ?_
     case hb2=>first|exact HB.out|exact (HB.out.alloc HB.out.size _).alloc (Nat.le_trans HB.out.size (by show _<=(Array.push _ _).size;simp)) _
     rintro e w2 ⟨rfl,b2⟩
     have B2:=hid (show Below w.heap.size w w2 from by
      first
       | exact HB.out.trans (b2.mono HB.out.size)
       | exact ((HB.out.alloc HB.out.size _).alloc (Nat.le_trans HB.out.size (by show _<=(Array.push _ _).size;simp)) _).trans (b2.mono (Nat.le_trans HB.out.size (by show _<=(Array.push (Array.push _ _) _).size;simp;omega))))
     clear b2 con c0 d0 c1 d1 c2 d2 c3 d3 hl1 hl2
     cases f
     · have HE:=hid (allN_miss hlt HPK.out)
       go_wp2_with fail
       go_ret
       exact ⟨by rw [HE.out];rfl,B2.out⟩
     · go_wp2_with fail
       go_roundw
       case rel=>exact ⟨k+1,by omega,by go_num,(fun t ht=>by
        rcases Nat.lt_or_eq_of_le (Nat.le_of_lt_succ ht) with h|rfl
        · exact HF.out t h
        · exact HPK.out),B2⟩
       case measure=>simp [intOf];omega
   · obtain rfl:k=n:=by omega
     have HE:=hid (allN_hit HF.out)
     go_wp2_with fail
     go_ret
     exact ⟨by rw [HE.out];rfl,HB.out⟩
 · have d1:decide (n=m)=false:=decide_eq_false hne
   have HE:=hid (show (decide (n=m) && allN p n)=false by rw [d1];rfl)
   go_enter Tryz.func77,Tryz.ntmps77
   go_wp2_with fail
   go_ret
   exact ⟨by rw [HE.out];rfl,Below.refl _ _⟩
theorem eqf_rows {a a':Option Addr} {n m c c' g:Nat} {cb:Array Value} {x0:Nat->Value} {y0:Nat->Value} (p:Nat->Bool) {w:World} (eg:∀ args w,(callFunc g args).run Tryz.prog w=.ok (.enter g args) w) (hn:n<=140737488355328) (hm:m<=140737488355328)
 (ha:0<n->∃ b off,a=some ⟨b,off,none⟩/\b<w.heap.size/\∀ t,t<n->w.cell? ⟨b,off+t,none⟩=some (x0 t))
 (hb:0<m->∃ b off,a'=some ⟨b,off,none⟩/\b<w.heap.size/\∀ t,t<m->w.cell? ⟨b,off+t,none⟩=some (y0 t))
 (hp:n=m->∀ t,t<n->∀ w1,Below w.heap.size w w1->Calls Tryz.prog g (#[x0 t,y0 t] ++ cb) w1 fun e w2=>e=.returned (.bool (p t))/\Below w1.heap.size w1 w2) :
 Calls Tryz.prog 78 #[.slice a n c,.slice a' m c',.func (.func g) #[] cb] w fun e w'=>e=.returned (.bool (decide (n=m) && allN p n))/\Below w.heap.size w w':=by
 have HX:=hid ha
 have HY:=hid hb
 have HP:=hid hp
 clear ha hb hp
 by_cases hne:n=m
 · subst hne
   go_enter Tryz.func78,Tryz.ntmps78
   go_wp2_with fail
   go_loopw [17] (fun i wr=>∃ k:Nat,k<=n/\i=.int .i64 k/\Hid (∀ t,t<k->p t=true)/\Hid (Below w.heap.size w wr)) (fun i _=>n - (intOf i).toNat)
   case atStart=>exact ⟨0,Nat.zero_le _,rfl,(fun t ht=>by omega),Below.refl _ _⟩
   case round =>
   obtain ⟨k,hk,rfl,HF,HB⟩:=hrel
   by_cases hlt:k<n
   · obtain ⟨b,off,rfl,hbl,hcs⟩:=HX.out (by omega)
     obtain ⟨b',off',rfl,hbl',hcs'⟩:=HY.out (by omega)
     have h0:=hcs k hlt
     have g0:=hcs' k hlt
     have c0:=(HB.out.cell (p:=⟨b,off+k,none⟩) hbl).trans h0
     have d0:=(HB.out.cell (p:=⟨b',off'+k,none⟩) hbl').trans g0
     have hl1:b<wr.heap.size:=jL hbl HB.out.size
     have hl2:b'<wr.heap.size:=jL hbl' HB.out.size
     have con:=HP.out (by trivial) k hlt
     clear hcs hcs' h0 g0
     generalize hpk:p k=f at con
     have HPK:=hid hpk
     clear hpk
     go_wp2_with fail
     refine (con _ ?hb2).mono ?_
     case hb2=>first|exact HB.out|exact (HB.out.alloc HB.out.size _).alloc (Nat.le_trans HB.out.size (by show _<=(Array.push _ _).size;simp)) _
     rintro e w2 ⟨rfl,b2⟩
     have B2:=hid (show Below w.heap.size w w2 from by
      first
       | exact HB.out.trans (b2.mono HB.out.size)
       | exact ((HB.out.alloc HB.out.size _).alloc (Nat.le_trans HB.out.size (by show _<=(Array.push _ _).size;simp)) _).trans (b2.mono (Nat.le_trans HB.out.size (by show _<=(Array.push (Array.push _ _) _).size;simp;omega))))
     clear b2 con c0 d0 hl1 hl2
     cases f
     · have HE:=hid (allN_miss hlt HPK.out)
       go_wp2_with fail
       go_ret
       exact ⟨by rw [HE.out];rfl,B2.out⟩
     · go_wp2_with fail
       go_roundw
       case rel=>exact ⟨k+1,by omega,by go_num,(fun t ht=>by
        rcases Nat.lt_or_eq_of_le (Nat.le_of_lt_succ ht) with h|rfl
        · exact HF.out t h
        · exact HPK.out),B2⟩
       case measure=>simp [intOf];omega
   · obtain rfl:k=n:=by omega
     have HE:=hid (allN_hit HF.out)
     go_wp2_with fail
     go_ret
     exact ⟨by rw [HE.out];rfl,HB.out⟩
 · have d1:decide (n=m)=false:=decide_eq_false hne
   have HE:=hid (show (decide (n=m) && allN p n)=false by rw [d1];rfl)
   go_enter Tryz.func78,Tryz.ntmps78
   go_wp2_with fail
   go_ret
   exact ⟨by rw [HE.out];rfl,Below.refl _ _⟩
end
section
open Go.RowKit
def sameV (x y:Val):Bool:=decide (x.kind=y.kind) && decide (cmpV x y=0)
theorem same1_any (x y:Val) (w:World) (hK:KindsAt w) :
 Calls Tryz.prog 121 #[.agg #[.int .i64 x.kind,.int .i64 x.n,.string x.s],.agg #[.int .i64 y.kind,.int .i64 y.n,.string y.s]] w fun e w'=>e=.returned (.bool (sameV x y))/\Below w.heap.size w w':=by
 obtain ⟨xk,xn,xs⟩:=x
 obtain ⟨yk,yn,ys⟩:=y
 simp only
 obtain ⟨W1,hW1⟩:∃ W1,w.alloc (.cells #[.int .i64 xk,.int .i64 xn,.string xs] 55)=W1:=⟨_,rfl⟩
 obtain ⟨W2,hW2⟩:∃ W2,W1.alloc (.cells #[.int .i64 yk,.int .i64 yn,.string ys] 55)=W2:=⟨_,rfl⟩
 have hb1:Below w.heap.size w W1:=by rw [<- hW1];exact (b0R).alloc (jR _) _
 have h1s:W1.heap.size=w.heap.size+1:=by rw [<- hW1];exact Array.size_push _
 have hb2:Below w.heap.size w W2:=by rw [<- hW2];exact hb1.alloc (by omega) _
 have hx:W1.heap[w.heap.size]? = some (.cells #[.int .i64 xk,.int .i64 xn,.string xs] 55 (0,0)):=by rw [<- hW1];exact heap_alloc_new _ _
 have hb12:Below W1.heap.size W1 W2:=by rw [<- hW2];exact (b0R).alloc (jR _) _
 have hx2:=(hb12.block _ (jB hx)).trans hx
 have hy2:W2.heap[w.heap.size+1]? = some (.cells #[.int .i64 yk,.int .i64 yn,.string ys] 55 (0,0)):=by rw [<- hW2,<- h1s];exact heap_alloc_new _ _
 have x0:=jC hx2 0
 have x1:=jC hx2 1
 have x2:=jC hx2 2
 have y0:=jC hy2 0
 have y1:=jC hy2 1
 have y2:=jC hy2 2
 simp only [gT,gZ,gS] at x0 x1 x2 y0 y1 y2
 have con:Calls Tryz.prog 24 #[.agg #[.int .i64 xk,.int .i64 xn,.string xs],.agg #[.int .i64 yk,.int .i64 yn,.string ys]] W2 fun e w'=>e=.returned (.int .i64 (cmpV ⟨xk,xn,xs⟩ ⟨yk,yn,ys⟩))/\Below W2.heap.size W2 w':=vcmp_any ⟨xk,xn,xs⟩ ⟨yk,yn,ys⟩ W2 (hK.below hb2)
 have HF:=hid (show sameV ⟨xk,xn,xs⟩ ⟨yk,yn,ys⟩=(decide (xk=yk) && decide (cmpV ⟨xk,xn,xs⟩ ⟨yk,yn,ys⟩=0)) from rfl)
 generalize cmpV _ _=z at con HF
 have B2:=hid hb2
 clear hK hb1 hb2 hb12 hx hx2 hy2
 by_cases hk:xk=yk
 · subst hk
   by_cases hz:z=0
   · have HE:=hid (show sameV ⟨xk,xn,xs⟩ ⟨xk,yn,ys⟩=true by rw [HF.out,hz];simp)
     subst hz
     go_enter Tryz.func121,Tryz.ntmps121
     go_upto_region 1 with (fail)
     clear hW1 hW2 h1s
     go_wp2_with fail
     refine con.mono ?_
     rintro e w2 ⟨rfl,b2⟩
     have B3:=hid (B2.out.trans (b2.mono B2.out.size))
     clear b2 con
     go_wp2_with fail
     go_ret
     exact ⟨by rw [HE.out];rfl,B3.out⟩
   · have HE:=hid (show sameV ⟨xk,xn,xs⟩ ⟨xk,yn,ys⟩=false by rw [HF.out];simp [hz])
     have d1:(z == 0)=false:=by simpa using hz
     go_enter Tryz.func121,Tryz.ntmps121
     go_upto_region 1 with (fail)
     clear hW1 hW2 h1s
     go_wp2_with fail
     refine con.mono ?_
     rintro e w2 ⟨rfl,b2⟩
     have B3:=hid (B2.out.trans (b2.mono B2.out.size))
     clear b2 con
     go_wp2_with fail
     go_ret
     exact ⟨by rw [HE.out];rfl,B3.out⟩
 · have HE:=hid (show sameV ⟨xk,xn,xs⟩ ⟨yk,yn,ys⟩=false by rw [HF.out];simp [hk])
   have d1:(xk == yk)=false:=by simpa using hk
   clear con
   go_enter Tryz.func121,Tryz.ntmps121
   go_upto_region 1 with (fail)
   clear hW1 hW2 h1s
   go_wp2_with fail
   go_ret
   exact ⟨by rw [HE.out];rfl,B2.out⟩
def vAt (L:List Val) (t:Nat):Val:=(L[t]?).getD val0
theorem vAt_eq {L:List Val} {t:Nat} (h:t<L.length):vAt L t=L[t]:=by
 unfold vAt
 rw [List.getElem?_eq_getElem h];rfl
def sameR (x y:List Val):Bool:=decide (x.length=y.length) && allN (fun t=>sameV (vAt x t) (vAt y t)) x.length
theorem vals_at {p:Nat->Prop} {w:World} {a:Option Addr} {c:Nat} {L:List Val} (h:SlV valR p w (.slice a L.length c) L):0<L.length->∃ b off,a=some ⟨b,off,none⟩/\b<w.heap.size/\∀ t,t<L.length->w.cell? ⟨b,off+t * 3,none⟩=some (.int .i64 (vAt L t).kind)/\w.cell? ⟨b,off+t * 3+1,none⟩=some (.int .i64 (vAt L t).n)/\w.cell? ⟨b,off+t * 3+2,none⟩=some (.string (vAt L t).s):=by
 intro h0
 obtain ⟨_,_,_,hrow⟩:=h.row
 obtain ⟨b,off,rfl,_,hbl⟩:=hrow.addr (by intro e;rw [e] at h0;cases h0)
 refine ⟨b,off,rfl,hbl,fun t ht=>?_⟩
 rw [vAt_eq ht]
 exact hrow.val t ht
theorem same_any {p q:Nat->Prop} {a a':Option Addr} {c c':Nat} {x y:List Val} {w:World} (hx:SlV valR p w (.slice a x.length c) x) (hy:SlV valR q w (.slice a' y.length c') y) (hK:KindsAt w) :
 Calls Tryz.prog 64 #[.slice a x.length c,.slice a' y.length c'] w fun e w'=>e=.returned (.bool (sameR x y))/\Below w.heap.size w w':=by
 have con:=eqf_val (c:=c) (c':=c') (cb:=#[]) (fun t=>sameV (vAt x t) (vAt y t)) (enters_of Tryz.func121 (by kernel_rfl) rfl) hx.row.2.2.1 hy.row.2.2.1 (vals_at hx) (vals_at hy) (fun _ t _ w1 b1=>same1_any (vAt x t) (vAt y t) w1 (hK.below b1))
 have HF:=hid (show sameR x y=(decide (x.length=y.length) && allN (fun t=>sameV (vAt x t) (vAt y t)) x.length) from rfl)
 generalize (decide (x.length=y.length) && allN (fun t=>sameV (vAt x t) (vAt y t)) x.length)=f at con HF
 clear hx hy hK
 go_enter Tryz.func64,Tryz.ntmps64
 go_wp2_with fail
 refine con.mono ?_
 rintro e w2 ⟨rfl,b2⟩
 have B2:=hid b2
 clear b2 con
 go_wp2_with fail
 go_ret
 exact ⟨by rw [HF.out];rfl,B2.out⟩
end
section
open Go.RowKit
def sameRows (x y:List (List Val)):Bool:=decide (x.length=y.length) && allN (fun t=>sameR (rAt x t) (rAt y t)) x.length
theorem rows_at {p:Nat->Prop} {w:World} {a:Option Addr} {c:Nat} {L:List (List Val)} (h:SlV rowR p w (.slice a L.length c) L):∃ f:Nat->Value,(0<L.length->∃ b off,a=some ⟨b,off,none⟩/\b<w.heap.size/\∀ t,t<L.length->w.cell? ⟨b,off+t,none⟩=some (f t))/\∀ t,t<L.length->∃ ra rc,f t=.slice ra (rAt L t).length rc/\SlV valR p w (.slice ra (rAt L t).length rc) (rAt L t):=by
 obtain ⟨_,_,_,hrow⟩:=h.row
 obtain ⟨ins,h1,h2,h3⟩:=rows_raw hrow
 refine ⟨fun t=>(ins[t]?).getD (.bool false),fun h0=>?_,fun t ht=>?_⟩
 · obtain ⟨b,off,rfl,_,hbl⟩:=hrow.addr (by intro e;rw [e] at h0;cases h0)
   refine ⟨b,off,rfl,hbl,fun t ht=>?_⟩
   have hi:t<ins.length:=by omega
   have:=h2 ⟨b,off,none⟩ rfl t ins[t] (List.getElem?_eq_getElem hi)
   rw [addr_add] at this
   simpa [List.getElem?_eq_getElem hi] using this
 · have hi:t<ins.length:=by omega
   obtain ⟨ra,rc,e,hs⟩:=h3 t ht hi
   rw [rAt_eq ht]
   exact ⟨ra,rc,by simp [List.getElem?_eq_getElem hi,e],hs⟩
theorem sameRows_any {p q:Nat->Prop} {a a':Option Addr} {c c':Nat} {x y:List (List Val)} {w:World} (hx:SlV rowR p w (.slice a x.length c) x) (hy:SlV rowR q w (.slice a' y.length c') y) (hK:KindsAt w) :
 Calls Tryz.prog 63 #[.slice a x.length c,.slice a' y.length c',.func (.func 64) #[] #[]] w fun e w'=>e=.returned (.bool (sameRows x y))/\Below w.heap.size w w':=by
 obtain ⟨f,f1,f2⟩:=rows_at hx
 obtain ⟨g,g1,g2⟩:=rows_at hy
 refine eqf_row (x0:=f) (y0:=g) (cb:=#[]) (fun t=>sameR (rAt x t) (rAt y t)) (enters_of Tryz.func64 (by kernel_rfl) rfl) hx.row.2.2.1 hy.row.2.2.1 f1 g1 (fun e t ht w1 b1=>?_)
 obtain ⟨ra,rc,e1,s1⟩:=f2 t ht
 obtain ⟨rb,rd,e2,s2⟩:=g2 t (by omega)
 rw [e1,e2]
 exact same_any (s1.below b1) (s2.below b1) (hK.below b1)
end
section
open Go.RowKit
def sameA (x y:AnsV):Bool:=decide (x.err=y.err) && decide (x.n=y.n) && sameRows x.rows y.rows
theorem sameA_any {p q:Nat->Prop} {a a':Option Addr} {c c':Nat} {ex ey nx ny:Int} {x y:List (List Val)} {w:World} (hx:SlV rowR p w (.slice a x.length c) x) (hy:SlV rowR q w (.slice a' y.length c') y) (hK:KindsAt w) :
 Calls Tryz.prog 29 #[.agg #[.int .i64 ex,.slice a x.length c,.int .i64 nx],.agg #[.int .i64 ey,.slice a' y.length c',.int .i64 ny]] w fun e w'=>e=.returned (.bool (sameA ⟨ex,x,nx⟩ ⟨ey,y,ny⟩))/\Below w.heap.size w w':=by
 obtain ⟨W1,hW1⟩:∃ W1,w.alloc (.cells #[.int .i64 ex,.slice a x.length c,.int .i64 nx] 43)=W1:=⟨_,rfl⟩
 obtain ⟨W2,hW2⟩:∃ W2,W1.alloc (.cells #[.int .i64 ey,.slice a' y.length c',.int .i64 ny] 43)=W2:=⟨_,rfl⟩
 have hb1:Below w.heap.size w W1:=by rw [<- hW1];exact (b0R).alloc (jR _) _
 have h1s:W1.heap.size=w.heap.size+1:=by rw [<- hW1];exact Array.size_push _
 have hb2:Below w.heap.size w W2:=by rw [<- hW2];exact hb1.alloc (by omega) _
 have hp:W1.heap[w.heap.size]? = some (.cells #[.int .i64 ex,.slice a x.length c,.int .i64 nx] 43 (0,0)):=by rw [<- hW1];exact heap_alloc_new _ _
 have hb12:Below W1.heap.size W1 W2:=by rw [<- hW2];exact (b0R).alloc (jR _) _
 have hp2:=(hb12.block _ (jB hp)).trans hp
 have hq2:W2.heap[w.heap.size+1]? = some (.cells #[.int .i64 ey,.slice a' y.length c',.int .i64 ny] 43 (0,0)):=by rw [<- hW2,<- h1s];exact heap_alloc_new _ _
 have x0:=jC hp2 0
 have x1:=jC hp2 1
 have x2:=jC hp2 2
 have y0:=jC hq2 0
 have y1:=jC hq2 1
 have y2:=jC hq2 2
 simp only [gT,gZ,gS] at x0 x1 x2 y0 y1 y2
 have con:=sameRows_any (hx.below hb2) (hy.below hb2) (hK.below hb2)
 have HF:=hid (show sameA ⟨ex,x,nx⟩ ⟨ey,y,ny⟩=(decide (ex=ey) && decide (nx=ny) && sameRows x y) from rfl)
 generalize sameRows x y=f at con HF
 have B2:=hid hb2
 clear hx hy hK hb1 hb2 hb12 hp hp2 hq2
 by_cases he:ex=ey
 · subst he
   by_cases hn:nx=ny
   · have HE:=hid (show sameA ⟨ex,x,nx⟩ ⟨ex,y,ny⟩=f by rw [HF.out,hn];simp)
     subst hn
     go_enter Tryz.func29,Tryz.ntmps29
     go_upto_region 1 with (fail)
     clear hW1 hW2 h1s
     go_wp2_with fail
     refine con.mono ?_
     rintro e w2 ⟨rfl,b2⟩
     have B3:=hid (B2.out.trans (b2.mono B2.out.size))
     clear b2 con
     go_wp2_with fail
     go_ret
     exact ⟨by rw [HE.out];rfl,B3.out⟩
   · have HE:=hid (show sameA ⟨ex,x,nx⟩ ⟨ex,y,ny⟩=false by rw [HF.out];simp [hn])
     have d1:(nx == ny)=false:=by simpa using hn
     clear con
     go_enter Tryz.func29,Tryz.ntmps29
     go_upto_region 1 with (fail)
     clear hW1 hW2 h1s
     go_wp2_with fail
     go_ret
     exact ⟨by rw [HE.out];rfl,B2.out⟩
 · have HE:=hid (show sameA ⟨ex,x,nx⟩ ⟨ey,y,ny⟩=false by rw [HF.out];simp [he])
   have d1:(ex == ey)=false:=by simpa using he
   clear con
   go_enter Tryz.func29,Tryz.ntmps29
   go_upto_region 1 with (fail)
   clear hW1 hW2 h1s
   go_wp2_with fail
   go_ret
   exact ⟨by rw [HE.out];rfl,B2.out⟩
end
end Go.Proofs.YtgemihkcihigpaaGreatDoor
