/- The laws' sanity check holds. -/
import Derived.Test.YtgemihkcihigpaaGreatDoorZD34
set_option linter.unusedVariables false
set_option linter.unusedSimpArgs false
set_option maxRecDepth 100000
set_option maxHeartbeats 64000000
namespace Go.Proofs.YtgemihkcihigpaaGreatDoor
open Go.Lib (hid)
section
open Go.RowKit
theorem sel_at {p:Nat->Prop} {g1 g2:Nat} {w:World} (h1:w.heap[g1]? = some (.cells #[.string sB] 9 (0,0))) (h2:w.heap[g2]? = some (.cells #[.string sA] 9 (0,0))) (p1:p g1) (p2:p g2) :
 StmtV p w (.agg #[.int .i64 7,.string sT,.string ⟨#[]⟩,.slice none 0 0,.slice (some ⟨g1,0,none⟩) 1 1,.slice none 0 0,.slice none 0 0,.slice none 0 0,.string ⟨#[]⟩,.string ⟨#[]⟩,.string ⟨#[]⟩,.int .i64 0,.slice (some ⟨g2,0,none⟩) 1 1,.int .i64 0,.int .i64 0]) selS :=
 ⟨none,0,some ⟨g1,0,none⟩,1,none,0,none,0,none,0,some ⟨g2,0,none⟩,1,rfl,nil_sl,one_str h1 p1,nil_sl,nil_sl,nil_sl,one_str h2 p2⟩
theorem sum_at {p:Nat->Prop} {g1 g2:Nat} {w:World} (h1:w.heap[g1]? = some (.cells #[.string sA] 9 (0,0))) (h2:w.heap[g2]? = some (.cells #[.string sB,.int .i64 1,.int .i64 (tx sY).kind,.int .i64 (tx sY).n,.string (tx sY).s] 60 (0,0))) (p1:p g1) (p2:p g2) :
 StmtV p w (.agg #[.int .i64 7,.string sT,.string ⟨#[]⟩,.slice none 0 0,.slice (some ⟨g1,0,none⟩) 1 1,.slice none 0 0,.slice none 0 0,.slice (some ⟨g2,0,none⟩) 1 1,.string ⟨#[]⟩,.string ⟨#[]⟩,.string ⟨#[]⟩,.int .i64 2,.slice none 0 0,.int .i64 0,.int .i64 0]) sumS :=
 ⟨none,0,some ⟨g1,0,none⟩,1,none,0,none,0,some ⟨g2,0,none⟩,1,none,0,rfl,nil_sl,one_str h1 p1,nil_sl,nil_sl,one_cond (c:=⟨sB,1,tx sY⟩) h2 p2,nil_sl⟩
theorem upd_at {p:Nat->Prop} {g1 g2:Nat} {w:World} (h1:w.heap[g1]? = some (.cells #[.string sA,.string sA,.int .i64 (wh 5).kind,.int .i64 (wh 5).n,.string (wh 5).s] 81 (0,0))) (h2:w.heap[g2]? = some (.cells #[.string sA,.int .i64 5,.int .i64 (wh 1).kind,.int .i64 (wh 1).n,.string (wh 1).s] 60 (0,0))) (p1:p g1) (p2:p g2) :
 StmtV p w (.agg #[.int .i64 5,.string sT,.string ⟨#[]⟩,.slice none 0 0,.slice none 0 0,.slice none 0 0,.slice (some ⟨g1,0,none⟩) 1 1,.slice (some ⟨g2,0,none⟩) 1 1,.string ⟨#[]⟩,.string ⟨#[]⟩,.string ⟨#[]⟩,.int .i64 0,.slice none 0 0,.int .i64 0,.int .i64 0]) updS :=
 ⟨none,0,none,0,none,0,some ⟨g1,0,none⟩,1,some ⟨g2,0,none⟩,1,none,0,rfl,nil_sl,nil_sl,nil_sl,one_set (c:=⟨sA,sA,wh 5⟩) h1 p1,one_cond (c:=⟨sA,5,wh 1⟩) h2 p2,nil_sl⟩
theorem san_upd_s:stepS (twoS san2 []) updS=twoS (changeRows (twoS san2 []) updS) []:=by
 rw [stepS_chg (Or.inl rfl) san_upd.1]
 unfold changeS
 rw [show updS.table=sT from rfl,findT_t]
 rfl
def SumD (S:Nat) (u:Value) (w:World):Prop:=∃ q1 q2,u=.agg #[.int .i64 7,.string sT,.string ⟨#[]⟩,.slice none 0 0,.slice (some ⟨q1,0,none⟩) 1 1,.slice none 0 0,.slice none 0 0,.slice (some ⟨q2,0,none⟩) 1 1,.string ⟨#[]⟩,.string ⟨#[]⟩,.string ⟨#[]⟩,.int .i64 2,.slice none 0 0,.int .i64 0,.int .i64 0] /\
 w.heap[q1]? = some (.cells #[.string sA] 9 (0,0))/\w.heap[q2]? = some (.cells #[.string sB,.int .i64 1,.int .i64 (tx sY).kind,.int .i64 (tx sY).n,.string (tx sY).s] 60 (0,0))
theorem SumD.rs {S S':Nat} {u:Value} {w w':World} (h:SumD S u w) (hr:RS S' w w'):SumD S u w':=by
 obtain ⟨q1,q2,h0,h1,h2⟩:=h
 exact ⟨q1,q2,h0,hr.other h1 (by decide),hr.other h2 (by decide)⟩
def UpdD (S:Nat) (u:Value) (w:World):Prop:=∃ q1 q2,u=.agg #[.int .i64 5,.string sT,.string ⟨#[]⟩,.slice none 0 0,.slice none 0 0,.slice none 0 0,.slice (some ⟨q1,0,none⟩) 1 1,.slice (some ⟨q2,0,none⟩) 1 1,.string ⟨#[]⟩,.string ⟨#[]⟩,.string ⟨#[]⟩,.int .i64 0,.slice none 0 0,.int .i64 0,.int .i64 0] /\
 w.heap[q1]? = some (.cells #[.string sA,.string sA,.int .i64 (wh 5).kind,.int .i64 (wh 5).n,.string (wh 5).s] 81 (0,0))/\w.heap[q2]? = some (.cells #[.string sA,.int .i64 5,.int .i64 (wh 1).kind,.int .i64 (wh 1).n,.string (wh 1).s] 60 (0,0))
theorem UpdD.rs {S S':Nat} {u:Value} {w w':World} (h:UpdD S u w) (hr:RS S' w w'):UpdD S u w':=by
 obtain ⟨q1,q2,h0,h1,h2⟩:=h
 exact ⟨q1,q2,h0,hr.other h1 (by decide),hr.other h2 (by decide)⟩
def DidRow (u:Value) (w:World):Prop:=∃ b1 d1 b2 d2 rb ro d3,u=.tuple #[.agg #[.slice b1 2 d1,.slice b2 2 d2],.agg #[.int .i64 0,.slice (some ⟨rb,ro,none⟩) 1 d3,.int .i64 1]]/\RowOne val0 rb ro w
def AnsRow (u:Value) (w:World):Prop:=∃ rb ro d3,u=.agg #[.int .i64 0,.slice (some ⟨rb,ro,none⟩) 1 d3,.int .i64 1]/\RowOne val0 rb ro w
def DidNone (u:Value):Prop:=∃ b1 d1 b2 d2 x y,u=.tuple #[.agg #[.slice b1 2 d1,.slice b2 2 d2],.agg #[.int .i64 0,.slice x 0 y,.int .i64 1]]
def AnsNone (u:Value):Prop:=∃ x y,u=.agg #[.int .i64 0,.slice x 0 y,.int .i64 1]
def StVal (u:Value):Prop:=∃ b1 d1 b2 d2,u=.agg #[.slice b1 2 d1,.slice b2 2 d2]
def PtrS (S:Nat) (u:Value) (w:World):Prop:=∃ q,u=.pointer (some ⟨q,0,none⟩)/\S<=q/\SBox w q
def PtrA (S:Nat) (u:Value) (w:World):Prop:=∃ q,u=.pointer (some ⟨q,0,none⟩)/\S<=q/\w.heap[q]? = some (.cells #[.int .i64 0,.slice none 0 0,.int .i64 0] 43 (0,0))
theorem sanity_any (w:World) (hK:KindsAt w):Calls Tryz.prog 13 #[] w fun e w'=>e=.returned (.bool true)/\Below w.heap.size w w':=by
 have HK:=hid hK
 have con:=begun_any w hK
 clear hK
 go_enter Tryz.func13,Tryz.ntmps13
 go_wp2_with fail
 refine con.mono ?_
 rintro e w1 ⟨a1,c1,a2,c2,rfl,b1,t1⟩
 have B1:=hid b1
 have T1:=hid t1
 have con:=whole_any 2 w1
 clear b1 t1
 go_wp2_with fail
 refine con.mono ?_
 rintro e w2 ⟨rfl,b2⟩
 have B2:=hid (B1.out.trans (b2.mono B1.out.size))
 have T2:=hid (T1.out.below b2)
 have con:=text_any sX w2
 clear b2 T1 B1
 go_wp2_with fail
 refine con.mono ?_
 rintro e w3 ⟨rfl,b3⟩
 have B3:=hid (B2.out.trans (b3.mono B2.out.size))
 have T3:=hid (T2.out.below b3)
 clear b3 T2 B2 con
 go_wp2_with fail
 generalize hX:World.alloc _ _=X
 have bx:Below w3.heap.size w3 X:=by rw [<- hX];exact (b0R).alloc (jR _) _
 have HV:=hid (show X.heap[w3.heap.size]? = some (.cells #[.int .i64 (wh 2).kind,.int .i64 (wh 2).n,.string (wh 2).s,.int .i64 (tx sX).kind,.int .i64 (tx sX).n,.string (tx sX).s] 55 (0,0)) from by rw [<- hX];exact heap_alloc_new _ _)
 have B4:=hid (B3.out.trans (bx.mono B3.out.size))
 have T4:=hid (T3.out.below bx)
 have con:=lins_any sT (some ⟨w3.heap.size,0,none⟩) 2 2 X
 clear hX bx T3 B3
 refine con.mono ?_
 rintro e w4 ⟨rfl,b4⟩
 have B5:=hid (B4.out.trans (b4.mono B4.out.size))
 have con:=do_two (T4.out.below b4) (ins_at (two_vals (p:=fun _=>True) ((b4.block _ (jB HV.out)).trans HV.out) trivial)) (inv_two (n:=48) (fun r hr=>absurd hr List.not_mem_nil) (fun r hr=>absurd hr List.not_mem_nil) (by decide) (by decide)) (by decide) (ins_small (by decide)) (HK.out.below B5.out) (ins_t (A:=[]) (B:=[]) (a:=wh 2) (b:=tx sX) (Or.inr rfl) (Or.inr ⟨rfl,by decide⟩)).2 (stepA_ins rfl (ins_t (A:=[]) (B:=[]) (a:=wh 2) (b:=tx sX) (Or.inr rfl) (Or.inr ⟨rfl,by decide⟩)).1) rfl
 clear b4 T4 B4
 go_wp2_with fail
 refine con.mono ?_
 rintro e w5 ⟨a1,c1,a2,c2,z3,y3,rfl,b5,t5,_⟩
 have B6:=hid (B5.out.trans (b5.mono B5.out.size))
 have T6:=hid (show TwoAt _ w5 a1 c1 a2 c2 san1 [] from t5.bound)
 clear con b5 t5 B5
 go_upto_region 2 with (fail)
 generalize hA:World.alloc _ _=Z
 have hZ:allocs w5 [_,_]=Z:=hA
 have G:=hid (show Z.heap[w5.heap.size]? = some (.cells #[.slice a1 2 c1,.slice a2 2 c2] 27 (0,0)) from allocs_get hZ 0 rfl)
 have bz:=allocs_self hZ
 have B7:=hid (B6.out.trans (bz.mono B6.out.size))
 have HT:=hid (show TwoAt (fun k=>k<w5.heap.size) Z a1 c1 a2 c2 san1 [] from (T6.out.below bz).weaken fun k h=>h.2)
 have HKV:=hid (HK.out.below B7.out)
 have HGW:=hid (show w.heap.size<=w5.heap.size from B6.out.size)
 obtain ⟨g,hg⟩:∃ g,w5.heap.size=g:=⟨_,rfl⟩
 rw [hg] at G HT HGW ⊢
 clear hA hZ bz hg T6 B6
 apply wp_region_growa 9 (fun w1 w2=>w1.grownBy w2 (some (g))) [20,21,22,23,24,25,19,26,27]
  [fun _ u _=>u=.agg #[.slice a1 2 c1,.slice a2 2 c2],
   fun _ u _=>u=.agg #[.int .i64 (wh 1).kind,.int .i64 (wh 1).n,.string (wh 1).s],
   fun _ u _=>u=.agg #[.int .i64 (val0).kind,.int .i64 (val0).n,.string (val0).s],
   fun _ u w'=>NewTwoV Z.heap.size (wh 1) (val0) u w',
   fun _ u w'=>InsAt Z.heap.size sT (wh 1) (val0) u w',
   fun _ u w'=>DidAt (fun k=>k<g \/ Z.heap.size<=k) (san1 ++ [[wh 1,val0]]) (([]:List (List Val))) u w',
   fun _ u w'=>DidAt (fun k=>k<g \/ Z.heap.size<=k) (san1 ++ [[wh 1,val0]]) (([]:List (List Val))) u w',
   fun _ u w'=>NowAt (fun k=>k<g \/ Z.heap.size<=k) (san1 ++ [[wh 1,val0]]) (([]:List (List Val))) u w',
   fun _ _ _=>True,
   fun _ _ _=>True]
  (fun w'=>Z.grownBy w' (some (g))) (Below Z.heap.size Z) (BoxAt (g) (fun k=>k<g \/ Z.heap.size<=k) (san1 ++ [[wh 1,val0]]) (([]:List (List Val))))
 case hF =>
  intro v
  simp only [setAll,List.foldl_cons,List.foldl_nil,Act.put,List.setIfInBounds_toArray,List.set_cons_succ,List.set_cons_zero]
  exact rfl
 case hm=>kernel_rfl
 case hB=>kernel_rfl
 case hsz=>kernel_rfl
 case hR=>exact fun w1 w2 h=>grownBy_of_below _ h
 case hC=>exact fun w1 w2 h b=>grown_tra h b
 case hCp=>exact fun w1 w2 h b=>h.trans (b.mono h.size)
 case hDm=>exact fun w1 w2 h b=>h.below b
 case hw=>exact grownBy_of_below _ (Below.drew b0R)
 case hwp=>exact Below.drew b0R
 case hS =>
  intro D hD v u
  simp only [List.mem_cons,List.not_mem_nil,or_false] at hD
  rcases hD with rfl|rfl|rfl|rfl|rfl|rfl|rfl|rfl|rfl|rfl
  · exact fun w1 w2 h _=>h
  · exact fun w1 w2 h _=>h
  · exact fun w1 w2 h _=>h
  · exact fun w1 w2 h hb=>h.grown (by exact jB G.out) hb
  · exact fun w1 w2 h hb=>h.grown (by exact jB G.out) hb
  · exact fun w1 w2 h hb=>h.grown ((fun h=>h.elim (fun h=>Nat.lt_irrefl _ h) (fun h=>absurd h (Nat.not_le.2 (jB G.out))))) hb
  · exact fun w1 w2 h hb=>h.grown ((fun h=>h.elim (fun h=>Nat.lt_irrefl _ h) (fun h=>absurd h (Nat.not_le.2 (jB G.out))))) hb
  · exact fun w1 w2 h hb=>h.grown ((fun h=>h.elim (fun h=>Nat.lt_irrefl _ h) (fun h=>absurd h (Nat.not_le.2 (jB G.out))))) hb
  · exact fun w1 w2 h _=>h
  · exact fun w1 w2 h _=>h
 case hob =>
  apply growr_ahead rfl (by kernel_rfl)
  · intro v w1 h1 hp hd
    clear hd
    have q0:=(hp.block _ (jB G.out)).trans G.out
    have x0:=jC q0 0
    have x1:=jC q0 1
    simp only [gT,gZ,gS] at x0 x1
    clear q0
    clear h1 hp
    go_wp2_with fail
    first|exact Below.refl _ _|exact ⟨Below.refl _ _,rfl⟩|exact ⟨rfl,Below.refl _ _⟩
  apply growr_cons rfl
  · intro v w1 h1 hd
    clear hd
    have con:=whole_any 1 w1
    clear h1
    go_wp2_with fail
    refine con.mono ?_
    rintro e w2 ⟨rfl,b2⟩
    have B2:=hid b2
    clear con b2
    go_wp2_with fail
    first|exact ⟨B2.out,rfl,rfl,rfl⟩|exact ⟨B2.out,rfl⟩|exact ⟨rfl,B2.out⟩
  apply growr_cons rfl
  · intro v w1 h1 hd
    clear hd h1
    go_wp2_with fail
    first|exact ⟨Below.refl _ _,rfl,rfl,rfl⟩|exact ⟨Below.refl _ _,rfl⟩|exact ⟨rfl,Below.refl _ _⟩
  apply growr_cons rfl
  · intro v w1 h1 hd
    have g1:v 21=.agg #[.int .i64 (wh 1).kind,.int .i64 (wh 1).n,.string (wh 1).s]:=hd 1 _ _ _ rfl rfl rfl rfl
    have g2:v 22=.agg #[.int .i64 (val0).kind,.int .i64 (val0).n,.string (val0).s]:=hd 2 _ _ _ rfl rfl rfl rfl
    clear hd
    rw [g1,g2]
    have HSW:=hid h1.size
    clear g1 g2 h1
    go_wp2_with fail
    have hb3:Below w1.heap.size w1 (w1.alloc (.cells #[.int .i64 (wh 1).kind,.int .i64 (wh 1).n,.string (wh 1).s,.int .i64 (val0).kind,.int .i64 (val0).n,.string (val0).s] 55)):=(b0R).alloc (jR _) _
    first|exact ⟨hb3,w1.heap.size,rfl,HSW.out,heap_alloc_new _ _⟩|exact ⟨⟨w1.heap.size,rfl,HSW.out,heap_alloc_new _ _⟩,hb3⟩
  apply growr_cons rfl
  · intro v w1 h1 hd
    obtain ⟨gq,g3,hg1,hg2⟩:NewTwoV Z.heap.size (wh 1) (val0) (v 23) w1:=hd 3 _ _ _ rfl rfl rfl rfl
    clear hd
    rw [g3]
    have HG:=hid (show _/\_ from ⟨hg1,hg2⟩)
    have con:=lins_any sT (some ⟨gq,0,none⟩) 2 2 w1
    clear g3 hg1 hg2 h1
    go_wp2_with fail
    refine con.mono ?_
    rintro e w2 ⟨rfl,b2⟩
    have B2:=hid b2
    have R2:=hid (show InsAt Z.heap.size sT (wh 1) (val0) _ w2 from ⟨gq,rfl,HG.out.1,(b2.block _ (jB HG.out.2)).trans HG.out.2⟩)
    clear con b2
    go_wp2_with fail
    first|exact ⟨B2.out,R2.out⟩|exact ⟨R2.out,B2.out⟩
  apply growr_ahead rfl (by kernel_rfl)
  · intro v w1 h1 hp hd
    have g0:v 20=.agg #[.slice a1 2 c1,.slice a2 2 c2]:=hd 0 _ _ _ rfl rfl rfl rfl
    obtain ⟨gq,g4,hg1,hg2⟩:InsAt Z.heap.size sT (wh 1) (val0) (v 24) w1:=hd 4 _ _ _ rfl rfl rfl rfl
    clear hd
    rw [g0,g4]
    have HSW:=hid hp.size
    have con:=do_two (HT.out.below hp) (ins_at (two_vals (p:=fun _=>True) hg2 trivial)) san_inv1 (by decide) (ins_small (Nat.le_trans (show (2:Nat)<=2 from jR _) (by decide))) (HKV.out.below hp) ((ins_t (A:=san1) (B:=[]) (a:=wh 1) (b:=val0) (Or.inr rfl) (Or.inl rfl))).2 (stepA_ins rfl ((ins_t (A:=san1) (B:=[]) (a:=wh 1) (b:=val0) (Or.inr rfl) (Or.inl rfl))).1) rfl
    clear g0 g4 hg1 hg2 h1 hp
    go_wp2_with fail
    refine con.mono ?_
    rintro e w2 ⟨b1,d1,b2,d2,b3,d3,rfl,bb,tt,_⟩
    have B2:=hid bb
    have R2:=hid (show DidAt (fun k=>k<g \/ Z.heap.size<=k) (san1 ++ [[wh 1,val0]]) (([]:List (List Val))) _ w2 from ⟨b1,d1,b2,d2,b3,d3,rfl,tt.weaken fun k hk=>hk.imp id (fun h=>Nat.le_trans HSW.out h)⟩)
    clear con bb tt
    go_wp2_with fail
    first|exact ⟨B2.out,R2.out⟩|exact ⟨R2.out,B2.out⟩
  apply growr_cons rfl
  · intro v w1 h1 hd
    obtain ⟨b1,d1,b2,d2,b3,d3,g5,tt⟩:DidAt (fun k=>k<g \/ Z.heap.size<=k) (san1 ++ [[wh 1,val0]]) (([]:List (List Val))) (v 25) w1:=hd 5 _ _ _ rfl rfl rfl rfl
    clear hd
    rw [g5]
    have R2:=hid (show DidAt (fun k=>k<g \/ Z.heap.size<=k) (san1 ++ [[wh 1,val0]]) (([]:List (List Val))) _ w1 from ⟨b1,d1,b2,d2,b3,d3,rfl,tt⟩)
    clear g5 tt h1
    go_wp2_with fail
    first|exact ⟨Below.refl _ _,R2.out⟩|exact ⟨R2.out,Below.refl _ _⟩
  apply growr_cons rfl
  · intro v w1 h1 hd
    obtain ⟨b1,d1,b2,d2,b3,d3,g6,tt⟩:DidAt (fun k=>k<g \/ Z.heap.size<=k) (san1 ++ [[wh 1,val0]]) (([]:List (List Val))) (v 19) w1:=hd 6 _ _ _ rfl rfl rfl rfl
    clear hd
    rw [g6]
    have R2:=hid (show NowAt (fun k=>k<g \/ Z.heap.size<=k) (san1 ++ [[wh 1,val0]]) (([]:List (List Val))) _ w1 from ⟨b1,d1,b2,d2,rfl,tt⟩)
    clear g6 tt h1
    go_wp2_with fail
    first|exact ⟨Below.refl _ _,R2.out⟩|exact ⟨R2.out,Below.refl _ _⟩
  apply growr_cons rfl
  · intro v w1 h1 hd
    obtain ⟨b1,d1,b2,d2,b3,d3,g6,tt⟩:DidAt (fun k=>k<g \/ Z.heap.size<=k) (san1 ++ [[wh 1,val0]]) (([]:List (List Val))) (v 19) w1:=hd 6 _ _ _ rfl rfl rfl rfl
    clear hd
    rw [g6]
    clear g6 tt h1
    go_wp2_with fail
    first|exact Below.refl _ _|exact ⟨Below.refl _ _,trivial⟩|exact ⟨trivial,Below.refl _ _⟩
  apply growr_one rfl
  · intro v w1 h1 hp hd
    obtain ⟨b1,d1,b2,d2,g7,tt⟩:NowAt (fun k=>k<g \/ Z.heap.size<=k) (san1 ++ [[wh 1,val0]]) (([]:List (List Val))) (v 26) w1:=hd 7 _ _ _ rfl rfl rfl rfl
    clear hd
    rw [g7]
    have hz:=(hp.block _ (jB G.out)).trans G.out
    have m0:=jC hz 0
    have m1:=jC hz 1
    have n0:=free_of hz 0
    have n1:=free_of hz 1
    simp only [gT,gZ,gS] at m0 m1
    have RR:=hid (ret_first (x0:=.slice b1 2 d1) (x1:=.slice b2 2 d2) b0R hz)
    have RT:=hid (tt.keep (w':=(w1.setCell ⟨g,0,none⟩ (.slice b1 2 d1)).setCell ⟨g,1,none⟩ (.slice b2 2 d2)) fun k hk hl=>RR.out.1.block k hl (by intro e;have e1:=jI e;exact absurd (e1 ▸ hk) ((fun h=>h.elim (fun h=>Nat.lt_irrefl _ h) (fun h=>absurd h (Nat.not_le.2 (jB G.out)))))))
    clear g7 tt h1 hp hz
    go_wp2_with fail
    have hfin:w1.grownBy ((w1.setCell ⟨g,0,none⟩ (.slice b1 2 d1)).setCell ⟨g,1,none⟩ (.slice b2 2 d2)) (some (g))/\BoxAt (g) (fun k=>k<g \/ Z.heap.size<=k) (san1 ++ [[wh 1,val0]]) (([]:List (List Val))) ((w1.setCell ⟨g,0,none⟩ (.slice b1 2 d1)).setCell ⟨g,1,none⟩ (.slice b2 2 d2)):=⟨RR.out.1,b1,d1,b2,d2,RR.out.2,RT.out⟩
    first|exact hfin|exact ⟨hfin.2,hfin.1⟩
  exact growr_nil
 case hend =>
  intro v w9 h1 hdm hd
  clear hd
  have H9:=hid (show _/\BoxAt g (fun k=>k<g \/ Z.heap.size<=k) san2 [] w9 from ⟨h1,hdm⟩)
  clear h1 hdm
  have B9:=hid (show Below w.heap.size w w9 from B7.out.grown H9.out.1 B7.out.size (fun j e=>by cases e;exact HGW.out))
  obtain ⟨a1,c1,a2,c2,hbox,htwo⟩:=H9.out.2
  have G9:=hid hbox
  have T9:=hid htwo
  have x0:=jC hbox 0
  have x1:=jC hbox 1
  simp only [gT,gZ,gS] at x0 x1
  clear hbox htwo H9 G HT HKV B7
  go_wp2_with fail
  generalize hX:World.alloc _ _=X2
  have hX2:allocs w9 [_,_]=X2:=hX
  have bx:=allocs_self hX2
  have q1:X2.heap[w9.heap.size]? = some (.cells #[.string sB] 9 (0,0)):=allocs_get hX2 0 rfl
  have q2:X2.heap[w9.heap.size+1]? = some (.cells #[.string sA] 9 (0,0)):=allocs_get hX2 1 rfl
  have B10:=hid (B9.out.trans (bx.mono B9.out.size))
  have G10:=cy bx G9
  have T10:=hid (T9.out.below bx)
  have con:=do_two T10.out (sel_at (p:=fun _=>True) q1 q2 trivial trivial) san_inv2 (by decide) ⟨rfl,Nat.zero_le _,by decide,Nat.zero_le _,by decide⟩ (HK.out.below B10.out) (stepS_qry rfl) san_sel rfl
  clear hX hX2 bx q1 q2 x0 x1 B9 G9 T9
  refine con.mono ?_
  rintro e w11 ⟨e1,e2,e3,e4,ra,rc,rfl,b11,_,r11⟩
  have B11:=hid (B10.out.trans (b11.mono B10.out.size))
  have G11:=cy b11 G10
  have T11:=hid ((T10.out.below b11).bound)
  have R11:=hid r11
  clear con b11 r11
  go_upto_region 4 with (fail)
  generalize hA:World.alloc _ _=V
  have hV:allocs w11 [_,_]=V:=hA
  have bv:=allocs_self hV
  obtain ⟨rb,ro,rfl,hrow⟩:=rows_cells (R11.out.below bv) (by decide)
  have AB:=hid (show V.heap[w11.heap.size+1]? = some (.cells #[.int .i64 0,.slice (some ⟨rb,ro,none⟩) 2 rc,.int .i64 2] 43 (0,0)) from allocs_get hV 1 rfl)
  have AR:=hid (show RowOne val0 rb ro V/\RowOne (tx sX) rb (ro+1) V from ⟨hrow 0 (by decide) val0 rfl,hrow 1 (by decide) (tx sX) rfl⟩)
  have BV:=hid (B11.out.trans (bv.mono B11.out.size))
  have GV:=cy bv G11
  have TV:=hid ((T11.out.below bv))
  have HKV:=hid (HK.out.below BV.out)
  clear hA hV bv hrow R11
  apply wp_region_growr 13 12 (RS V.heap.size) [37,38,39,40,41,42,43,36,44,45,5,6]
   [fun _ u _=>u=.agg #[.slice a1 2 c1,.slice a2 2 c2],
    fun _ u w'=>NewB V.heap.size #[.string sA] 9 u w',
    fun _ u _=>u=.agg #[.int .i64 (tx sY).kind,.int .i64 (tx sY).n,.string (tx sY).s],
    fun _ u _=>u=.agg #[.string sB,.int .i64 1,.int .i64 (tx sY).kind,.int .i64 (tx sY).n,.string (tx sY).s],
    fun _ u w'=>NewB V.heap.size #[.string sB,.int .i64 1,.int .i64 (tx sY).kind,.int .i64 (tx sY).n,.string (tx sY).s] 60 u w',
    fun _ u w'=>SumD V.heap.size u w',
    fun _ u w'=>DidRow u w',
    fun _ u w'=>DidRow u w',
    fun _ u _=>StVal u,
    fun _ u w'=>AnsRow u w',
    fun _ u w'=>PtrS V.heap.size u w',
    fun _ u w'=>PtrA V.heap.size u w',
    fun _ _ _=>True]
   (Below V.heap.size V) (Below V.heap.size V) (fun _=>True)
  case hF =>
   intro v
   simp only [setAll,List.foldl_cons,List.foldl_nil,Act.put,List.setIfInBounds_toArray,List.set_cons_succ,List.set_cons_zero]
   exact rfl
  case hm=>kernel_rfl
  case hB=>kernel_rfl
  case hsz=>kernel_rfl
  case hR=>exact fun w1 w2 h=>Or.inl h
  case hC=>exact fun w1 w2 h b=>RS.base (jR _) h b
  case hCp=>exact fun w1 w2 h b=>h.trans (b.mono h.size)
  case hDm=>exact fun _ _ _ _=>trivial
  case hw=>exact Below.drew b0R
  case hwp=>exact Below.drew b0R
  case hS =>
   intro D hD v u
   simp only [List.mem_cons,List.not_mem_nil,or_false] at hD
   rcases hD with rfl|rfl|rfl|rfl|rfl|rfl|rfl|rfl|rfl|rfl|rfl|rfl|rfl
   · exact fun w1 w2 h _=>h
   · exact fun w1 w2 h hr=>h.rs (by decide) hr
   · exact fun w1 w2 h _=>h
   · exact fun w1 w2 h _=>h
   · exact fun w1 w2 h hr=>h.rs (by decide) hr
   · exact fun w1 w2 h hr=>h.rs hr
   · exact fun w1 w2 ⟨b1,d1,b2,d2,rb,ro,d3,e,h⟩ hr=>⟨b1,d1,b2,d2,rb,ro,d3,e,h.rs hr⟩
   · exact fun w1 w2 ⟨b1,d1,b2,d2,rb,ro,d3,e,h⟩ hr=>⟨b1,d1,b2,d2,rb,ro,d3,e,h.rs hr⟩
   · exact fun w1 w2 h _=>h
   · exact fun w1 w2 ⟨rb,ro,d3,e,h⟩ hr=>⟨rb,ro,d3,e,h.rs hr⟩
   · exact fun w1 w2 ⟨q,e,h,z⟩ hr=>⟨q,e,h,z.rs hr⟩
   · exact fun w1 w2 ⟨q,e,h,z⟩ hr=>⟨q,e,h,hr.other z (by decide)⟩
   · exact fun w1 w2 h _=>h
  case hob =>
   simp only [List.take_succ_cons,List.take_zero]
   apply growr_cons rfl
   · intro v w1 h1 hd
     clear hd
     have q0:=(h1.block _ (jB GV.out)).trans GV.out
     have x0:=jC q0 0
     have x1:=jC q0 1
     simp only [gT,gZ,gS] at x0 x1
     clear q0
     clear h1
     go_wp2_with fail
     first|exact Below.refl _ _|exact ⟨Below.refl _ _,rfl⟩|exact ⟨rfl,Below.refl _ _⟩
   apply growr_cons rfl
   · intro v w1 h1 hd
     clear hd
     have HSW:=hid h1.size
     clear h1
     go_wp2_with fail
     have hb3:Below w1.heap.size w1 (w1.alloc (.cells #[.string sA] 9)):=(b0R).alloc (jR _) _
     first|exact ⟨hb3,w1.heap.size,rfl,HSW.out,heap_alloc_new _ _⟩|exact ⟨⟨w1.heap.size,rfl,HSW.out,heap_alloc_new _ _⟩,hb3⟩
   apply growr_cons rfl
   · intro v w1 h1 hd
     clear hd
     have con:=text_any sY w1
     clear h1
     go_wp2_with fail
     refine con.mono ?_
     rintro e w2 ⟨rfl,b2⟩
     have B2:=hid b2
     clear con b2
     go_wp2_with fail
     first|exact ⟨B2.out,rfl,rfl,rfl⟩|exact ⟨B2.out,rfl⟩|exact ⟨rfl,B2.out⟩
   apply growr_cons rfl
   · intro v w1 h1 hd
     have g1:v 39=.agg #[.int .i64 (tx sY).kind,.int .i64 (tx sY).n,.string (tx sY).s]:=hd 2 _ _ _ rfl rfl rfl rfl
     clear hd
     rw [g1]
     clear g1 h1
     go_wp2_with fail
     first|exact ⟨Below.refl _ _,rfl⟩|exact ⟨rfl,Below.refl _ _⟩|exact Below.refl _ _|exact ⟨Below.refl _ _,rfl,rfl⟩|exact ⟨Below.refl _ _,rfl,rfl,rfl⟩
   apply growr_cons rfl
   · intro v w1 h1 hd
     have g1:v 40=.agg #[.string sB,.int .i64 1,.int .i64 (tx sY).kind,.int .i64 (tx sY).n,.string (tx sY).s]:=hd 3 _ _ _ rfl rfl rfl rfl
     clear hd
     rw [g1]
     have HSW:=hid h1.size
     clear g1 h1
     go_wp2_with fail
     have hb3:Below w1.heap.size w1 (w1.alloc (.cells #[.string sB,.int .i64 1,.int .i64 (tx sY).kind,.int .i64 (tx sY).n,.string (tx sY).s] 60)):=(b0R).alloc (jR _) _
     first|exact ⟨hb3,w1.heap.size,rfl,HSW.out,heap_alloc_new _ _⟩|exact ⟨⟨w1.heap.size,rfl,HSW.out,heap_alloc_new _ _⟩,hb3⟩
   apply growr_cons rfl
   · intro v w1 h1 hd
     obtain ⟨q1,g1,_,hq1⟩:NewB V.heap.size #[.string sA] 9 (v 38) w1:=hd 1 _ _ _ rfl rfl rfl rfl
     obtain ⟨q2,g2,_,hq2⟩:NewB V.heap.size #[.string sB,.int .i64 1,.int .i64 (tx sY).kind,.int .i64 (tx sY).n,.string (tx sY).s] 60 (v 41) w1:=hd 4 _ _ _ rfl rfl rfl rfl
     clear hd
     rw [g1,g2]
     have HH:=hid (show _/\_ from ⟨hq1,hq2⟩)
     clear g1 g2 hq1 hq2 h1
     go_wp2_with fail
     first|exact ⟨Below.refl _ _,q1,q2,rfl,HH.out.1,HH.out.2⟩|exact ⟨⟨q1,q2,rfl,HH.out.1,HH.out.2⟩,Below.refl _ _⟩
   apply growr_ahead rfl (by kernel_rfl)
   · intro v w1 h1 hp hd
     have g0:v 37=.agg #[.slice a1 2 c1,.slice a2 2 c2]:=hd 0 _ _ _ rfl rfl rfl rfl
     obtain ⟨q1,q2,g4,hg1,hg2⟩:SumD V.heap.size (v 42) w1:=hd 5 _ _ _ rfl rfl rfl rfl
     clear hd
     rw [g0,g4]
     have con:=do_two (TV.out.below h1) (sum_at (p:=fun _=>True) hg1 hg2 trivial trivial) san_inv2 (by decide) ⟨rfl,Nat.zero_le _,by decide,Nat.zero_le _,by decide⟩ (HKV.out.below h1) (stepS_qry rfl) san_sum rfl
     clear g0 g4 hg1 hg2 h1 hp
     go_wp2_with fail
     refine con.mono ?_
     rintro e w2 ⟨b1,d1,b2,d2,b3,d3,rfl,bb,_,rr⟩
     have B2:=hid bb
     obtain ⟨rb,ro,rfl,hrw⟩:=rows_cells rr (by decide)
     have hrow:=hrw 0 (by decide) val0 rfl
     have R2:=hid (show DidRow (.tuple #[.agg #[.slice b1 2 d1,.slice b2 2 d2],.agg #[.int .i64 0,.slice (some ⟨rb,ro,none⟩) 1 d3,.int .i64 1]]) w2 from ⟨b1,d1,b2,d2,rb,ro,d3,rfl,hrow⟩)
     clear con bb rr hrow
     go_wp2_with fail
     first|exact ⟨B2.out,R2.out⟩|exact ⟨R2.out,B2.out⟩
   apply growr_cons rfl
   · intro v w1 h1 hd
     obtain ⟨b1,d1,b2,d2,rb,ro,d3,g5,hrow⟩:DidRow (v 43) w1:=hd 6 _ _ _ rfl rfl rfl rfl
     clear hd
     rw [g5]
     have R2:=hid (show DidRow (.tuple #[.agg #[.slice b1 2 d1,.slice b2 2 d2],.agg #[.int .i64 0,.slice (some ⟨rb,ro,none⟩) 1 d3,.int .i64 1]]) w1 from ⟨b1,d1,b2,d2,rb,ro,d3,rfl,hrow⟩)
     clear g5 h1 hrow
     go_wp2_with fail
     first|exact ⟨Below.refl _ _,R2.out⟩|exact ⟨R2.out,Below.refl _ _⟩
   apply growr_cons rfl
   · intro v w1 h1 hd
     obtain ⟨b1,d1,b2,d2,rb,ro,d3,g5,hrow⟩:DidRow (v 36) w1:=hd 7 _ _ _ rfl rfl rfl rfl
     clear hd
     rw [g5]
     have R2:=hid (show StVal (.agg #[.slice b1 2 d1,.slice b2 2 d2]) from ⟨b1,d1,b2,d2,rfl⟩)
     clear g5 h1 hrow
     go_wp2_with fail
     first|exact ⟨Below.refl _ _,R2.out⟩|exact ⟨R2.out,Below.refl _ _⟩
   apply growr_cons rfl
   · intro v w1 h1 hd
     obtain ⟨b1,d1,b2,d2,rb,ro,d3,g5,hrow⟩:DidRow (v 36) w1:=hd 7 _ _ _ rfl rfl rfl rfl
     clear hd
     rw [g5]
     have R2:=hid (show AnsRow (.agg #[.int .i64 0,.slice (some ⟨rb,ro,none⟩) 1 d3,.int .i64 1]) w1 from ⟨rb,ro,d3,rfl,hrow⟩)
     clear g5 h1 hrow
     go_wp2_with fail
     first|exact ⟨Below.refl _ _,R2.out⟩|exact ⟨R2.out,Below.refl _ _⟩
   apply growr_cons rfl
   · intro v w1 h1 hd
     clear hd
     have HSW:=hid h1.size
     clear h1
     go_wp2_with fail
     have hb3:Below w1.heap.size w1 (w1.alloc (.cells #[.slice none 0 0,.slice none 0 0] 27)):=(b0R).alloc (jR _) _
     have hs:SBox (w1.alloc (.cells #[.slice none 0 0,.slice none 0 0] 27)) w1.heap.size:=⟨_,_,_,_,_,_,heap_alloc_new _ _,by decide,by decide⟩
     first|exact ⟨hb3,_,rfl,HSW.out,hs⟩|exact ⟨⟨_,rfl,HSW.out,hs⟩,hb3⟩|exact ⟨hb3,HSW.out,hs⟩
   apply growr_cons rfl
   · intro v w1 h1 hd
     clear hd
     have HSW:=hid h1.size
     clear h1
     go_wp2_with fail
     have hb3:Below w1.heap.size w1 (w1.alloc (.cells #[.int .i64 0,.slice none 0 0,.int .i64 0] 43)):=(b0R).alloc (jR _) _
     have hn:(w1.alloc (.cells #[.int .i64 0,.slice none 0 0,.int .i64 0] 43)).heap[w1.heap.size]? = some (.cells #[.int .i64 0,.slice none 0 0,.int .i64 0] 43 (0,0)):=heap_alloc_new _ _
     first|exact ⟨hb3,_,rfl,HSW.out,hn⟩|exact ⟨⟨_,rfl,HSW.out,hn⟩,hb3⟩|exact ⟨hb3,HSW.out,hn⟩
   apply growr_one rfl
   · intro v w1 h1 hp hd
     obtain ⟨q,g1,hq,hs⟩:PtrS V.heap.size (v 5) w1:=hd 10 _ _ _ rfl rfl rfl rfl
     obtain ⟨b1,d1,b2,d2,g2⟩:StVal (v 44):=hd 8 _ _ _ rfl rfl rfl rfl
     clear hd
     rw [g1,g2]
     have HS:=hid hs
     have HQ:=hid hq
     obtain ⟨y1,n1,z1,y2,n2,z2,hz,_,_⟩:=hs
     have m0:=jC hz 0
     have m1:=jC hz 1
     have f0:=free_of hz 0
     have f1:=free_of hz 1
     simp only [gT,gZ,gS] at m0 m1
     have RR:=hid (show RS V.heap.size w1 ((w1.setCell ⟨q,0,none⟩ (.slice b1 2 d1)).setCell ⟨q,1,none⟩ (.slice b2 2 d2)) from Or.inr ⟨q,HQ.out,HS.out,⟨_,_,_,_,_,_,stbox_put hz,by decide,by decide⟩,grown_tra (grown_cell w1 ⟨q,0,none⟩ _) (grown_cell _ ⟨q,1,none⟩ _)⟩)
     clear g1 g2 hq hz h1 hp
     go_wp2_with fail
     first|exact RR.out|exact ⟨RR.out,trivial⟩|exact ⟨trivial,RR.out⟩
   exact growr_nil
  case hend =>
   intro v w12 h1 hdm hd
   obtain ⟨q6,g6,hq6,hz6⟩:PtrA V.heap.size (v 6) w12:=hd 11 _ _ _ rfl rfl rfl
   obtain ⟨sb,so,sc,g45,hrow⟩:AnsRow (v 45) w12:=hd 9 _ _ _ rfl rfl rfl
   clear hd hdm
   rw [g6,g45]
   have m0:=jC hz6 0
   have m1:=jC hz6 1
   have m2:=jC hz6 2
   have n0:=free_of hz6 0
   have n1:=free_of hz6 1
   have n2:=free_of hz6 2
   simp only [gT,gZ,gS] at m0 m1 m2
   have HZ:=hid hz6
   have HR:=hid hrow
   have HB:=hid h1
   have HQ:=hid hq6
   clear h1 hq6 hz6 hrow g6 g45
   simp only [List.drop_succ_cons,List.drop_zero]
   go_upto_region 5 with (fail)
   generalize hA:World.setCell _ _ _=U
   have hU:((w12.setCell ⟨q6,0,none⟩ (.int .i64 0)).setCell ⟨q6,1,none⟩ (.slice (some ⟨sb,so,none⟩) 1 sc)).setCell ⟨q6,2,none⟩ (.int .i64 1)=U:=hA
   have gU:w12.grownBy U (some q6):=by
    rw [<- hU]
    exact grown_tra (grown_tra (grown_cell w12 ⟨q6,0,none⟩ _) (grown_cell _ ⟨q6,1,none⟩ _)) (grown_cell _ ⟨q6,2,none⟩ _)
   have BB:=hid (show U.heap[q6]? = some (.cells #[.int .i64 0,.slice (some ⟨sb,so,none⟩) 1 sc,.int .i64 1] 43 (0,0)) by
    rw [<- hU]
    exact (heap_setCell_same _ _ _ _ _ _ ((heap_setCell_same _ _ _ _ _ _ ((heap_setCell_same _ _ _ _ _ _ HZ.out).trans rfl)).trans rfl)).trans rfl)
   have BR:=hid (HR.out.grown gU (ans_cell HZ.out).1 (ans_cell HZ.out).2)
   have BU:=hid (show Below V.heap.size V U from HB.out.grown gU HB.out.size (fun j e=>by cases e;exact HQ.out))
   have BWU:=hid (BV.out.trans (BU.out.mono BV.out.size))
   have GU:=cy BU.out GV
   have TU:=hid (TV.out.below BU.out)
   have ABU:=cy BU.out AB
   have ARU:=hid (show _/\_ from ⟨AR.out.1.below BU.out,AR.out.2.below BU.out⟩)
   have HKU:=hid (HK.out.below BWU.out)
   clear hA hU gU m0 m1 m2 n0 n1 n2 HZ HR HB HQ
   apply wp_region_growr 15 14 (RS U.heap.size) [47,48,49,50,51,52,53,54,55,46,56,57,7,8]
    [fun _ u _=>u=.agg #[.slice a1 2 c1,.slice a2 2 c2],
     fun _ u _=>u=.agg #[.int .i64 (wh 5).kind,.int .i64 (wh 5).n,.string (wh 5).s],
     fun _ u _=>u=.agg #[.string sA,.string sA,.int .i64 (wh 5).kind,.int .i64 (wh 5).n,.string (wh 5).s],
     fun _ u w'=>NewB U.heap.size #[.string sA,.string sA,.int .i64 (wh 5).kind,.int .i64 (wh 5).n,.string (wh 5).s] 81 u w',
     fun _ u _=>u=.agg #[.int .i64 (wh 1).kind,.int .i64 (wh 1).n,.string (wh 1).s],
     fun _ u _=>u=.agg #[.string sA,.int .i64 5,.int .i64 (wh 1).kind,.int .i64 (wh 1).n,.string (wh 1).s],
     fun _ u w'=>NewB U.heap.size #[.string sA,.int .i64 5,.int .i64 (wh 1).kind,.int .i64 (wh 1).n,.string (wh 1).s] 60 u w',
     fun _ u w'=>UpdD U.heap.size u w',
     fun _ u _=>DidNone u,
     fun _ u _=>DidNone u,
     fun _ u _=>StVal u,
     fun _ u _=>AnsNone u,
     fun _ u w'=>PtrS U.heap.size u w',
     fun _ u w'=>PtrA U.heap.size u w',
     fun _ _ _=>True]
    (Below U.heap.size U) (Below U.heap.size U) (fun _=>True)
   case hF =>
    intro v
    simp only [setAll,List.foldl_cons,List.foldl_nil,Act.put,List.setIfInBounds_toArray,List.set_cons_succ,List.set_cons_zero]
    exact rfl
   case hm=>kernel_rfl
   case hB=>kernel_rfl
   case hsz=>kernel_rfl
   case hR=>exact fun w1 w2 h=>Or.inl h
   case hC=>exact fun w1 w2 h b=>RS.base (jR _) h b
   case hCp=>exact fun w1 w2 h b=>h.trans (b.mono h.size)
   case hDm=>exact fun _ _ _ _=>trivial
   case hw=>exact Below.drew b0R
   case hwp=>exact Below.drew b0R
   case hS =>
    intro D hD v u
    simp only [List.mem_cons,List.not_mem_nil,or_false] at hD
    rcases hD with rfl|rfl|rfl|rfl|rfl|rfl|rfl|rfl|rfl|rfl|rfl|rfl|rfl|rfl|rfl
    · exact fun w1 w2 h _=>h
    · exact fun w1 w2 h _=>h
    · exact fun w1 w2 h _=>h
    · exact fun w1 w2 h hr=>h.rs (by decide) hr
    · exact fun w1 w2 h _=>h
    · exact fun w1 w2 h _=>h
    · exact fun w1 w2 h hr=>h.rs (by decide) hr
    · exact fun w1 w2 h hr=>h.rs hr
    · exact fun w1 w2 h _=>h
    · exact fun w1 w2 h _=>h
    · exact fun w1 w2 h _=>h
    · exact fun w1 w2 h _=>h
    · exact fun w1 w2 ⟨q,e,h,z⟩ hr=>⟨q,e,h,z.rs hr⟩
    · exact fun w1 w2 ⟨q,e,h,z⟩ hr=>⟨q,e,h,hr.other z (by decide)⟩
    · exact fun w1 w2 h _=>h
   case hob =>
    simp only [List.take_succ_cons,List.take_zero]
    apply growr_cons rfl
    · intro v w1 h1 hd
      clear hd
      have q0:=(h1.block _ (jB GU.out)).trans GU.out
      have x0:=jC q0 0
      have x1:=jC q0 1
      simp only [gT,gZ,gS] at x0 x1
      clear q0
      clear h1
      go_wp2_with fail
      first|exact Below.refl _ _|exact ⟨Below.refl _ _,rfl⟩|exact ⟨rfl,Below.refl _ _⟩
    apply growr_cons rfl
    · intro v w1 h1 hd
      clear hd
      have con:=whole_any 5 w1
      clear h1
      go_wp2_with fail
      refine con.mono ?_
      rintro e w2 ⟨rfl,b2⟩
      have B2:=hid b2
      clear con b2
      go_wp2_with fail
      first|exact ⟨B2.out,rfl,rfl,rfl⟩|exact ⟨B2.out,rfl⟩|exact ⟨rfl,B2.out⟩
    apply growr_cons rfl
    · intro v w1 h1 hd
      have g1:v 48=.agg #[.int .i64 (wh 5).kind,.int .i64 (wh 5).n,.string (wh 5).s]:=hd 1 _ _ _ rfl rfl rfl rfl
      clear hd
      rw [g1]
      clear g1 h1
      go_wp2_with fail
      first|exact ⟨Below.refl _ _,rfl⟩|exact ⟨rfl,Below.refl _ _⟩|exact Below.refl _ _|exact ⟨Below.refl _ _,rfl,rfl⟩|exact ⟨Below.refl _ _,rfl,rfl,rfl⟩
    apply growr_cons rfl
    · intro v w1 h1 hd
      have g1:v 49=.agg #[.string sA,.string sA,.int .i64 (wh 5).kind,.int .i64 (wh 5).n,.string (wh 5).s]:=hd 2 _ _ _ rfl rfl rfl rfl
      clear hd
      rw [g1]
      have HSW:=hid h1.size
      clear g1 h1
      go_wp2_with fail
      have hb3:Below w1.heap.size w1 (w1.alloc (.cells #[.string sA,.string sA,.int .i64 (wh 5).kind,.int .i64 (wh 5).n,.string (wh 5).s] 81)):=(b0R).alloc (jR _) _
      first|exact ⟨hb3,w1.heap.size,rfl,HSW.out,heap_alloc_new _ _⟩|exact ⟨⟨w1.heap.size,rfl,HSW.out,heap_alloc_new _ _⟩,hb3⟩
    apply growr_cons rfl
    · intro v w1 h1 hd
      clear hd
      have con:=whole_any 1 w1
      clear h1
      go_wp2_with fail
      refine con.mono ?_
      rintro e w2 ⟨rfl,b2⟩
      have B2:=hid b2
      clear con b2
      go_wp2_with fail
      first|exact ⟨B2.out,rfl,rfl,rfl⟩|exact ⟨B2.out,rfl⟩|exact ⟨rfl,B2.out⟩
    apply growr_cons rfl
    · intro v w1 h1 hd
      have g1:v 51=.agg #[.int .i64 (wh 1).kind,.int .i64 (wh 1).n,.string (wh 1).s]:=hd 4 _ _ _ rfl rfl rfl rfl
      clear hd
      rw [g1]
      clear g1 h1
      go_wp2_with fail
      first|exact ⟨Below.refl _ _,rfl⟩|exact ⟨rfl,Below.refl _ _⟩|exact Below.refl _ _|exact ⟨Below.refl _ _,rfl,rfl⟩|exact ⟨Below.refl _ _,rfl,rfl,rfl⟩
    apply growr_cons rfl
    · intro v w1 h1 hd
      have g1:v 52=.agg #[.string sA,.int .i64 5,.int .i64 (wh 1).kind,.int .i64 (wh 1).n,.string (wh 1).s]:=hd 5 _ _ _ rfl rfl rfl rfl
      clear hd
      rw [g1]
      have HSW:=hid h1.size
      clear g1 h1
      go_wp2_with fail
      have hb3:Below w1.heap.size w1 (w1.alloc (.cells #[.string sA,.int .i64 5,.int .i64 (wh 1).kind,.int .i64 (wh 1).n,.string (wh 1).s] 60)):=(b0R).alloc (jR _) _
      first|exact ⟨hb3,w1.heap.size,rfl,HSW.out,heap_alloc_new _ _⟩|exact ⟨⟨w1.heap.size,rfl,HSW.out,heap_alloc_new _ _⟩,hb3⟩
    apply growr_cons rfl
    · intro v w1 h1 hd
      obtain ⟨q1,g1,_,hq1⟩:NewB U.heap.size #[.string sA,.string sA,.int .i64 (wh 5).kind,.int .i64 (wh 5).n,.string (wh 5).s] 81 (v 50) w1:=hd 3 _ _ _ rfl rfl rfl rfl
      obtain ⟨q2,g2,_,hq2⟩:NewB U.heap.size #[.string sA,.int .i64 5,.int .i64 (wh 1).kind,.int .i64 (wh 1).n,.string (wh 1).s] 60 (v 53) w1:=hd 6 _ _ _ rfl rfl rfl rfl
      clear hd
      rw [g1,g2]
      have HH:=hid (show _/\_ from ⟨hq1,hq2⟩)
      clear g1 g2 hq1 hq2 h1
      go_wp2_with fail
      first|exact ⟨Below.refl _ _,q1,q2,rfl,HH.out.1,HH.out.2⟩|exact ⟨⟨q1,q2,rfl,HH.out.1,HH.out.2⟩,Below.refl _ _⟩
    apply growr_ahead rfl (by kernel_rfl)
    · intro v w1 h1 hp hd
      have g0:v 47=.agg #[.slice a1 2 c1,.slice a2 2 c2]:=hd 0 _ _ _ rfl rfl rfl rfl
      obtain ⟨q1,q2,g4,hg1,hg2⟩:UpdD U.heap.size (v 54) w1:=hd 7 _ _ _ rfl rfl rfl rfl
      clear hd
      rw [g0,g4]
      have con:=do_two (TU.out.below h1) (upd_at (p:=fun _=>True) hg1 hg2 trivial trivial) san_inv2 (by decide) ⟨rfl,Nat.zero_le _,by decide,Nat.zero_le _,by decide⟩ (HKU.out.below h1) san_upd_s san_upd.2 rfl
      clear g0 g4 hg1 hg2 h1 hp
      go_wp2_with fail
      refine con.mono ?_
      rintro e w2 ⟨b1,d1,b2,d2,b3,d3,rfl,bb,_,rr⟩
      have B2:=hid bb
      have R2:=hid (show DidNone (.tuple #[.agg #[.slice b1 2 d1,.slice b2 2 d2],.agg #[.int .i64 0,.slice b3 0 d3,.int .i64 1]]) from ⟨b1,d1,b2,d2,b3,d3,rfl⟩)
      clear con bb rr
      go_wp2_with fail
      first|exact ⟨B2.out,R2.out⟩|exact ⟨R2.out,B2.out⟩
    apply growr_cons rfl
    · intro v w1 h1 hd
      obtain ⟨b1,d1,b2,d2,b3,d3,g5⟩:DidNone (v 55):=hd 8 _ _ _ rfl rfl rfl rfl
      clear hd
      rw [g5]
      have R2:=hid (show DidNone (.tuple #[.agg #[.slice b1 2 d1,.slice b2 2 d2],.agg #[.int .i64 0,.slice b3 0 d3,.int .i64 1]]) from ⟨b1,d1,b2,d2,b3,d3,rfl⟩)
      clear g5 h1
      go_wp2_with fail
      first|exact ⟨Below.refl _ _,R2.out⟩|exact ⟨R2.out,Below.refl _ _⟩
    apply growr_cons rfl
    · intro v w1 h1 hd
      obtain ⟨b1,d1,b2,d2,b3,d3,g5⟩:DidNone (v 46):=hd 9 _ _ _ rfl rfl rfl rfl
      clear hd
      rw [g5]
      have R2:=hid (show StVal (.agg #[.slice b1 2 d1,.slice b2 2 d2]) from ⟨b1,d1,b2,d2,rfl⟩)
      clear g5 h1
      go_wp2_with fail
      first|exact ⟨Below.refl _ _,R2.out⟩|exact ⟨R2.out,Below.refl _ _⟩
    apply growr_cons rfl
    · intro v w1 h1 hd
      obtain ⟨b1,d1,b2,d2,b3,d3,g5⟩:DidNone (v 46):=hd 9 _ _ _ rfl rfl rfl rfl
      clear hd
      rw [g5]
      have R2:=hid (show AnsNone (.agg #[.int .i64 0,.slice b3 0 d3,.int .i64 1]) from ⟨b3,d3,rfl⟩)
      clear g5 h1
      go_wp2_with fail
      first|exact ⟨Below.refl _ _,R2.out⟩|exact ⟨R2.out,Below.refl _ _⟩
    apply growr_cons rfl
    · intro v w1 h1 hd
      clear hd
      have HSW:=hid h1.size
      clear h1
      go_wp2_with fail
      have hb3:Below w1.heap.size w1 (w1.alloc (.cells #[.slice none 0 0,.slice none 0 0] 27)):=(b0R).alloc (jR _) _
      have hs:SBox (w1.alloc (.cells #[.slice none 0 0,.slice none 0 0] 27)) w1.heap.size:=⟨_,_,_,_,_,_,heap_alloc_new _ _,by decide,by decide⟩
      first|exact ⟨hb3,_,rfl,HSW.out,hs⟩|exact ⟨⟨_,rfl,HSW.out,hs⟩,hb3⟩|exact ⟨hb3,HSW.out,hs⟩
    apply growr_cons rfl
    · intro v w1 h1 hd
      clear hd
      have HSW:=hid h1.size
      clear h1
      go_wp2_with fail
      have hb3:Below w1.heap.size w1 (w1.alloc (.cells #[.int .i64 0,.slice none 0 0,.int .i64 0] 43)):=(b0R).alloc (jR _) _
      have hn:(w1.alloc (.cells #[.int .i64 0,.slice none 0 0,.int .i64 0] 43)).heap[w1.heap.size]? = some (.cells #[.int .i64 0,.slice none 0 0,.int .i64 0] 43 (0,0)):=heap_alloc_new _ _
      first|exact ⟨hb3,_,rfl,HSW.out,hn⟩|exact ⟨⟨_,rfl,HSW.out,hn⟩,hb3⟩|exact ⟨hb3,HSW.out,hn⟩
    apply growr_one rfl
    · intro v w1 h1 hp hd
      obtain ⟨q,g1,hq,hs⟩:PtrS U.heap.size (v 7) w1:=hd 12 _ _ _ rfl rfl rfl rfl
      obtain ⟨b1,d1,b2,d2,g2⟩:StVal (v 56):=hd 10 _ _ _ rfl rfl rfl rfl
      clear hd
      rw [g1,g2]
      have HS:=hid hs
      have HQ:=hid hq
      obtain ⟨y1,n1,z1,y2,n2,z2,hz,_,_⟩:=hs
      have m0:=jC hz 0
      have m1:=jC hz 1
      have f0:=free_of hz 0
      have f1:=free_of hz 1
      simp only [gT,gZ,gS] at m0 m1
      have RR:=hid (show RS U.heap.size w1 ((w1.setCell ⟨q,0,none⟩ (.slice b1 2 d1)).setCell ⟨q,1,none⟩ (.slice b2 2 d2)) from Or.inr ⟨q,HQ.out,HS.out,⟨_,_,_,_,_,_,stbox_put hz,by decide,by decide⟩,grown_tra (grown_cell w1 ⟨q,0,none⟩ _) (grown_cell _ ⟨q,1,none⟩ _)⟩)
      clear g1 g2 hq hz h1 hp
      go_wp2_with fail
      first|exact RR.out|exact ⟨RR.out,trivial⟩|exact ⟨trivial,RR.out⟩
    exact growr_nil
   case hend =>
    intro v w13 h1 hdm hd
    obtain ⟨q8,g8,hq8,hz8⟩:PtrA U.heap.size (v 8) w13:=hd 13 _ _ _ rfl rfl rfl
    obtain ⟨tc,td,g57⟩:AnsNone (v 57):=hd 11 _ _ _ rfl rfl rfl
    clear hd hdm
    rw [g8,g57]
    have m0:=jC hz8 0
    have m1:=jC hz8 1
    have m2:=jC hz8 2
    have n0:=free_of hz8 0
    have n1:=free_of hz8 1
    have n2:=free_of hz8 2
    simp only [gT,gZ,gS] at m0 m1 m2
    have HZ:=hid hz8
    have HB:=hid h1
    have HQ:=hid hq8
    clear h1 hq8 hz8 g8 g57
    simp only [List.drop_succ_cons,List.drop_zero]
    go_upto_region 6 with (fail)
    generalize hA:World.setCell _ _ _=Y
    have hY:((w13.setCell ⟨q8,0,none⟩ (.int .i64 0)).setCell ⟨q8,1,none⟩ (.slice tc 0 td)).setCell ⟨q8,2,none⟩ (.int .i64 1)=Y:=hA
    have gY:w13.grownBy Y (some q8):=by
     rw [<- hY]
     exact grown_tra (grown_tra (grown_cell w13 ⟨q8,0,none⟩ _) (grown_cell _ ⟨q8,1,none⟩ _)) (grown_cell _ ⟨q8,2,none⟩ _)
    have hc:Y.heap[q8]? = some (.cells #[.int .i64 0,.slice tc 0 td,.int .i64 1] 43 (0,0)):=by
     rw [<- hY]
     exact (heap_setCell_same _ _ _ _ _ _ ((heap_setCell_same _ _ _ _ _ _ ((heap_setCell_same _ _ _ _ _ _ HZ.out).trans rfl)).trans rfl)).trans rfl
    have bY:Below U.heap.size U Y:=HB.out.grown gY HB.out.size (fun j e=>by cases e;exact HQ.out)
    have BF:=hid (BWU.out.trans (bY.mono BWU.out.size))
    have ha:=(bY.block _ (jB ABU.out)).trans ABU.out
    have hb:=(bY.block _ (jB BB.out)).trans BB.out
    obtain ⟨i1,j1,k1,p0,p1,p2,p3⟩:=ARU.out.1.below bY
    obtain ⟨i2,j2,k2,r0,r1,r2,r3⟩:=ARU.out.2.below bY
    obtain ⟨i3,j3,k3,s0,s1,s2,s3⟩:=BR.out.below bY
    have e0:=jC ha 0
    have e1:=jC ha 1
    have e2:=jC ha 2
    have f0:=jC hb 0
    have f1:=jC hb 1
    have f2:=jC hb 2
    have o0:=jC hc 0
    have o1:=jC hc 1
    have o2:=jC hc 2
    simp only [gT,gZ,gS] at e0 e1 e2 f0 f1 f2 o0 o1 o2
    have p1':Y.cell? ⟨i1,j1,none⟩=some (.int .i64 0):=p1
    have r3':Y.cell? ⟨i2,j2+2,none⟩=some (.string ⟨#[120]⟩):=r3
    have s1':Y.cell? ⟨i3,j3,none⟩=some (.int .i64 0):=s1
    clear hA hY gY bY ha hb hc m0 m1 m2 n0 n1 n2 HZ HB HQ p1 p2 p3 r1 r2 r3 s1 s2 s3
    go_wp2_with fail
    go_ret
    exact ⟨rfl,BF.out⟩
end
section
open Go.RowKit
def fromRegion (n:Nat):Code->Option Code
 | .seq a b=>match a with
  | .region i _ _=>if i=n then some (.seq a b) else fromRegion n b
  | _=>match fromRegion n a with
   | some c=>some c
   | none=>fromRegion n b
 | .block _ c=>fromRegion n c
 | _=>none
noncomputable def mcodeE:Code:=(Tryz.f36.body.bind (fromRegion 50)).getD .skip
theorem made_end {Q:Exit->Act->World->Prop} {wc:World} {q2 q7 n4 c4 n5 c5 n6 c6 n7 c7 n12 c12:Nat} {a4 a5 a6 a7 a12:Option Addr} {kd ag:Int} {s1 s2 s8 s9 s10:ByteArray} {g0 g1 g3 g4 g5 g6 g8 g9 g10 g11 g12 g13 g14 g15 g16 g17 g18 g19 g20 g21 g22 g23 g24 g25 g26 g27 g28 g29 g30 g31 g32 g33 g34 g35 g36 g37 g38 g39 g40 g41 g42 g43 g44 g45 g46 g47 g48 g49 g50 g51 g52 g53 g54 g55 g56 g57 g58 g59 g60 g61 g62 g63 g64 g65 g66 g67 g68 g69 g70 g71 g72 g73 g74 g75 g76 g77 g78 g79 g80 g81 g82 g83 g84 g85 g86 g87 g88 g89 g90 g91 g92 g93 g94 g95 g96 g97 g98 g99 g100 g101 g102 g103 g104 g105 g106 g107 g108 g109 g110 g111 g112 g113 g114 g115 g116 g117 g118 g119 g120 g121 g122 g123 g124 g125 g126 g127 g128 g129 g130 g131 g132 g133 g134 g135 g136 g137 g138 g139 g140 g141 g142 g143 g144 g145 g146 g147 g148 g149 g150 g151 g152 g153 g154 g155 g156 g157 g158 g159 g160 g161 g162 g163 g164 g165 g166 g167 g168 g169 g170 g171 g172 g173 g174 g175 g176 g177 g178 g179 g180 g181 g182 g183 g184 g185 g186 g187 g188 g189 g190 g191 g192 g193 g194 g195 g196 g197 g198 g199 g200 g201 g202 g203 g204 g205 g206 g207 g208 g209 g210 g211 g212 g213 g214 g215 g216 g217 g218 g219 g220 g221 g222 g223 g224 g225 g226 g227 g228 g229 g230 g231 g232 g233 g234 g235 g236 g237 g238 g239 g240 g241 g242 g243 g244 g245 g246 g247 g248 g249 g250 g251 g252 g253 g254 g255 g256 g257 g258 g259 g260 g261 g262 g263 g264 g265 g266 g267 g268 g269 g270 g271 g272 g273 g274 g275 g276 g277 g278 g279 g280 g281 g282 g283 g284 g285 g286 g287 g288 g289 g290 g291 g292 g293 g294 g295 g296 g297 g298 g299 g300 g301 g302 g303 g304 g305 g306 g307:Value}
 (H2:wc.heap[q2]? = some (.cells #[.int .i64 0,.string ⟨#[]⟩,.string ⟨#[]⟩,.slice none 0 0,.slice none 0 0,.slice none 0 0,.slice none 0 0,.slice none 0 0,.string ⟨#[]⟩,.string ⟨#[]⟩,.string ⟨#[]⟩,.int .i64 0,.slice none 0 0,.int .i64 0,.int .i64 0] 39 (0,0))) (H7:wc.heap[q7]? = some (.cells #[.int .i64 kd,.string s1,.string s2,.slice none 0 0,.slice a4 n4 c4,.slice a5 n5 c5,.slice a6 n6 c6,.slice a7 n7 c7,.string s8,.string s9,.string s10,.int .i64 ag,.slice a12 n12 c12,.int .i64 0,.int .i64 0] 39 (0,0)))
 (hQ:∀ Z:World,wc.grownBy Z (some q2)->Z.heap[q2]? = some (.cells #[.int .i64 kd,.string s1,.string s2,.slice none 0 0,.slice a4 n4 c4,.slice a5 n5 c5,.slice a6 n6 c6,.slice a7 n7 c7,.string s8,.string s9,.string s10,.int .i64 ag,.slice a12 n12 c12,.int .i64 0,.int .i64 0] 39 (0,0))->Q .ret ⟨#[g0,g1,.pointer (some ⟨q2,0,none⟩),g3,g4,g5,g6,.pointer (some ⟨q7,0,none⟩),g8,g9,g10,g11,g12,g13,g14,g15,g16,g17,g18,g19,g20,g21,g22,g23,g24,g25,g26,g27,g28,g29,g30,g31,g32,g33,g34,g35,g36,g37,g38,g39,g40,g41,g42,g43,g44,g45,g46,g47,g48,g49,g50,g51,g52,g53,g54,g55,g56,g57,g58,g59,g60,g61,g62,g63,g64,g65,g66,g67,g68,g69,g70,g71,g72,g73,g74,g75,g76,g77,g78,g79,g80,g81,g82,g83,g84,g85,g86,g87,g88,g89,g90,g91,g92,g93,g94,g95,g96,g97,g98,g99,g100,g101,g102,g103,g104,g105,g106,g107,g108,g109,g110,g111,g112,g113,g114,g115,g116,g117,g118,g119,g120,g121,g122,g123,g124,g125,g126,g127,g128,g129,g130,g131,g132,g133,g134,g135,g136,g137,g138,g139,g140,g141,g142,g143,g144,g145,g146,g147,g148,g149,g150,g151,g152,g153,g154,g155,g156,g157,g158,g159,g160,g161,g162,g163,g164,g165,g166,g167,g168,g169,g170,g171,g172,g173,g174,g175,g176,g177,g178,g179,g180,g181,g182,g183,g184,g185,g186,g187,g188,g189,g190,g191,g192,g193,g194,g195,g196,g197,g198,g199,g200,g201,g202,g203,g204,g205,g206,g207,g208,g209,g210,g211,g212,g213,g214,g215,g216,g217,g218,g219,g220,g221,g222,g223,g224,g225,g226,g227,g228,g229,g230,g231,g232,g233,g234,g235,g236,g237,g238,g239,g240,g241,g242,g243,g244,g245,g246,g247,g248,g249,g250,g251,g252,g253,g254,g255,g256,g257,g258,g259,g260,g261,g262,g263,g264,g265,g266,g267,g268,g269,g270,g271,g272,g273,g274,g275,g276,g277,g278,g279,g280,g281,g282,g283,g284,g285,g286,g287,g288,g289,g290,g291,g292,g293,g294,g295,g296,g297,g298,g299,g300,g301,g302,g303,g304,g305,g306,.agg #[.int .i64 kd,.string s1,.string s2,.slice none 0 0,.slice a4 n4 c4,.slice a5 n5 c5,.slice a6 n6 c6,.slice a7 n7 c7,.string s8,.string s9,.string s10,.int .i64 ag,.slice a12 n12 c12,.int .i64 0,.int .i64 0]],[]⟩ Z):Code.wp Tryz.prog mcodeE Q ⟨#[g0,g1,.pointer (some ⟨q2,0,none⟩),g3,g4,g5,g6,.pointer (some ⟨q7,0,none⟩),g8,g9,g10,g11,g12,g13,g14,g15,g16,g17,g18,g19,g20,g21,g22,g23,g24,g25,g26,g27,g28,g29,g30,g31,g32,g33,g34,g35,g36,g37,g38,g39,g40,g41,g42,g43,g44,g45,g46,g47,g48,g49,g50,g51,g52,g53,g54,g55,g56,g57,g58,g59,g60,g61,g62,g63,g64,g65,g66,g67,g68,g69,g70,g71,g72,g73,g74,g75,g76,g77,g78,g79,g80,g81,g82,g83,g84,g85,g86,g87,g88,g89,g90,g91,g92,g93,g94,g95,g96,g97,g98,g99,g100,g101,g102,g103,g104,g105,g106,g107,g108,g109,g110,g111,g112,g113,g114,g115,g116,g117,g118,g119,g120,g121,g122,g123,g124,g125,g126,g127,g128,g129,g130,g131,g132,g133,g134,g135,g136,g137,g138,g139,g140,g141,g142,g143,g144,g145,g146,g147,g148,g149,g150,g151,g152,g153,g154,g155,g156,g157,g158,g159,g160,g161,g162,g163,g164,g165,g166,g167,g168,g169,g170,g171,g172,g173,g174,g175,g176,g177,g178,g179,g180,g181,g182,g183,g184,g185,g186,g187,g188,g189,g190,g191,g192,g193,g194,g195,g196,g197,g198,g199,g200,g201,g202,g203,g204,g205,g206,g207,g208,g209,g210,g211,g212,g213,g214,g215,g216,g217,g218,g219,g220,g221,g222,g223,g224,g225,g226,g227,g228,g229,g230,g231,g232,g233,g234,g235,g236,g237,g238,g239,g240,g241,g242,g243,g244,g245,g246,g247,g248,g249,g250,g251,g252,g253,g254,g255,g256,g257,g258,g259,g260,g261,g262,g263,g264,g265,g266,g267,g268,g269,g270,g271,g272,g273,g274,g275,g276,g277,g278,g279,g280,g281,g282,g283,g284,g285,g286,g287,g288,g289,g290,g291,g292,g293,g294,g295,g296,g297,g298,g299,g300,g301,g302,g303,g304,g305,g306,g307],[]⟩ wc:=by
 conv=>arg 2;whnf
 have HQ:=hid hQ
 have K2:=hid H2
 have K7:=hid H7
 clear hQ
 have l0:=jC H7 0
 have l1:=jC H7 1
 have l2:=jC H7 2
 have l3:=jC H7 3
 have l4:=jC H7 4
 have l5:=jC H7 5
 have l6:=jC H7 6
 have l7:=jC H7 7
 have l8:=jC H7 8
 have l9:=jC H7 9
 have l10:=jC H7 10
 have l11:=jC H7 11
 have l12:=jC H7 12
 have l13:=jC H7 13
 have l14:=jC H7 14
 have m0:=jC H2 0
 have n0':=free_of H2 0
 have m1:=jC H2 1
 have n1':=free_of H2 1
 have m2:=jC H2 2
 have n2':=free_of H2 2
 have m3:=jC H2 3
 have n3':=free_of H2 3
 have m4:=jC H2 4
 have n4':=free_of H2 4
 have m5:=jC H2 5
 have n5':=free_of H2 5
 have m6:=jC H2 6
 have n6':=free_of H2 6
 have m7:=jC H2 7
 have n7':=free_of H2 7
 have m8:=jC H2 8
 have n8':=free_of H2 8
 have m9:=jC H2 9
 have n9':=free_of H2 9
 have m10:=jC H2 10
 have n10':=free_of H2 10
 have m11:=jC H2 11
 have n11':=free_of H2 11
 have m12:=jC H2 12
 have n12':=free_of H2 12
 have m13:=jC H2 13
 have n13':=free_of H2 13
 have m14:=jC H2 14
 have n14':=free_of H2 14
 simp only [gT,gZ,gS] at l0 m0 l1 m1 l2 m2 l3 m3 l4 m4 l5 m5 l6 m6 l7 m7 l8 m8 l9 m9 l10 m10 l11 m11 l12 m12 l13 m13 l14 m14
 clear H2 H7
 go_wp2_with fail
 have e0:=heap_setCell_same _ q2 0 _ _ (.int .i64 kd) K2.out
 have e1:=heap_setCell_same _ q2 1 _ _ (.string s1) e0
 have e2:=heap_setCell_same _ q2 2 _ _ (.string s2) e1
 have e3:=heap_setCell_same _ q2 3 _ _ (.slice none 0 0) e2
 have e4:=heap_setCell_same _ q2 4 _ _ (.slice a4 n4 c4) e3
 have e5:=heap_setCell_same _ q2 5 _ _ (.slice a5 n5 c5) e4
 have e6:=heap_setCell_same _ q2 6 _ _ (.slice a6 n6 c6) e5
 have e7:=heap_setCell_same _ q2 7 _ _ (.slice a7 n7 c7) e6
 have e8:=heap_setCell_same _ q2 8 _ _ (.string s8) e7
 have e9:=heap_setCell_same _ q2 9 _ _ (.string s9) e8
 have e10:=heap_setCell_same _ q2 10 _ _ (.string s10) e9
 have e11:=heap_setCell_same _ q2 11 _ _ (.int .i64 ag) e10
 have e12:=heap_setCell_same _ q2 12 _ _ (.slice a12 n12 c12) e11
 have e13:=heap_setCell_same _ q2 13 _ _ (.int .i64 0) e12
 have e14:=heap_setCell_same _ q2 14 _ _ (.int .i64 0) e13
 simp only [List.setIfInBounds_toArray,List.set_cons_zero,List.set_cons_succ] at e14
 refine HQ.out _ ?_ e14
 exact (grown_tra (grown_tra (grown_tra (grown_tra (grown_tra (grown_tra (grown_tra (grown_tra (grown_tra (grown_tra (grown_tra (grown_tra (grown_tra (grown_tra (grown_tra (grownBy_refl _ _) (grown_cell _ ⟨q2,0,none⟩ _)) (grown_cell _ ⟨q2,1,none⟩ _)) (grown_cell _ ⟨q2,2,none⟩ _)) (grown_cell _ ⟨q2,3,none⟩ _)) (grown_cell _ ⟨q2,4,none⟩ _)) (grown_cell _ ⟨q2,5,none⟩ _)) (grown_cell _ ⟨q2,6,none⟩ _)) (grown_cell _ ⟨q2,7,none⟩ _)) (grown_cell _ ⟨q2,8,none⟩ _)) (grown_cell _ ⟨q2,9,none⟩ _)) (grown_cell _ ⟨q2,10,none⟩ _)) (grown_cell _ ⟨q2,11,none⟩ _)) (grown_cell _ ⟨q2,12,none⟩ _)) (grown_cell _ ⟨q2,13,none⟩ _)) (grown_cell _ ⟨q2,14,none⟩ _))
end
section
open Go.RowKit
def blockAt (n:Nat):Code->Option Code
 | .seq a b=>match blockAt n a with
  | some c=>some c
  | none=>blockAt n b
 | .block i c=>if i=n then some (.block i c) else blockAt n c
 | _=>none
noncomputable def mcodeW:Code:=(Tryz.f36.body.bind (blockAt 2)).getD .skip
theorem made_w {Q:Exit->Act->World->Prop} {V:World} {q3 q5 q6 q7:Nat} {x0 x1 x2 x3 x4 x5 x6 x7 x8 x9 x10 x11 x12 x13 x14 x15:Int} {kd:Int} {tb:ByteArray} {g0 g1 g2 g4 g9 g10 g11 g12 g13 g14 g15 g16 g17 g18 g19 g20 g21 g22 g23 g24 g25 g26 g27 g28 g29 g30 g31 g32 g33 g34 g35 g36 g37 g38 g39 g40 g41 g42 g43 g44 g45 g46 g47 g48 g49 g50 g51 g52 g53 g54 g55 g56 g57 g58 g59 g60 g61 g62 g63 g64 g65 g66 g67 g68 g69 g70 g71 g72 g73 g74 g75 g76 g77 g78 g79 g80 g81 g82 g83 g84 g85 g86 g87 g88 g89 g90 g91 g92 g93 g94 g95 g96 g97 g98 g99 g100 g101 g102 g103 g104 g105 g106 g107 g108 g109 g110 g111 g112 g113 g114 g115 g116 g117 g118 g119 g120 g121 g122 g123 g124 g125 g126 g127 g128 g129 g130 g131 g132 g133 g134 g135 g136 g137 g138 g139 g140 g141 g142 g143 g144 g145 g146 g147 g148 g149 g150 g151 g152 g153 g154 g155 g156 g157 g158 g159 g160 g161 g162 g163 g164 g165 g166 g167 g168 g169 g170 g171 g172 g173 g174 g175 g176 g177 g178 g179 g180 g181 g182 g183 g184 g185 g186 g187 g188 g189 g190 g191 g192 g193 g194 g195 g196 g197 g198 g199 g200 g201 g202 g203 g204 g205 g206 g207 g208 g209 g210 g211 g212 g213 g214 g215 g216 g217 g218 g219 g220 g221 g222 g223 g224 g225 g226 g227 g228 g229 g230 g231 g232 g233 g234 g235 g236 g237 g238 g239 g240 g241 g242 g243 g244 g245 g246 g247 g248 g249 g250 g251 g252 g253 g254 g255 g256 g257 g258 g259 g260 g261 g262 g263 g264 g265 g266 g267 g268 g269 g270 g271 g272 g273 g274 g275 g276 g277 g278 g279 g280 g281 g282 g283 g284 g285 g286 g287 g288 g289 g290 g291 g292 g293 g294 g295 g296 g297 g298 g299 g300 g301 g302 g303 g304 g305 g306 g307:Value}
 (HRN0:∀ x ∈ [x0,x1,x2,x3,x4,x5,x6,x7,x8,x9,x10,x11,x12,x13,x14,x15],0<=x/\x<=65535) (H3:V.heap[q3]? = some (.cells #[.int .i64 x0,.int .i64 x1,.int .i64 x2,.int .i64 x3,.int .i64 x4,.int .i64 x5,.int .i64 x6,.int .i64 x7,.int .i64 x8,.int .i64 x9,.int .i64 x10,.int .i64 x11,.int .i64 x12,.int .i64 x13,.int .i64 x14,.int .i64 x15] 3 (0,0))) (H5:V.heap[q5]? = some (.cells tabs6 9 (0,0))) (H6:V.heap[q6]? = some (.cells cols6 9 (0,0)))
 (H37:q3<q7/\q5<q7/\q6<q7) (H7:V.heap[q7]? = some (.cells #[.int .i64 kd,.string tb,.string ⟨#[]⟩,.slice none 0 0,.slice none 0 0,.slice none 0 0,.slice none 0 0,.slice none 0 0,.string ⟨#[]⟩,.string ⟨#[]⟩,.string ⟨#[]⟩,.int .i64 0,.slice none 0 0,.int .i64 0,.int .i64 0] 39 (0,0)))
 (hQ:∀ (d8 d9 d10 d11 d12 d13 d14 d15 d16 d17 d18 d19 d20 d21 d22 d23 d24 d25 d26 d27 d28 d29 d30 d31 d32 d33 d34 d35 d36 d37 d38 d39 d40 d41 d42 d43 d44 d45 d46 d47 d48 d49 d50 d51 d52 d53 d54 d55 d56 d57 d58 d59 d60 d61 d62 d63 d64 d65 d66 d67 d68 d69 d70 d71 d72 d73 d74 d75 d76 d77 d78 d79 d80 d81 d82 d83 d84 d85 d86 d87 d88 d89 d90 d91 d92 d93 d94 d95 d96 d97 d98 d99 d100 d101 d102 d103 d104 d105 d106 d107 d108 d109 d110 d111 d112 d113 d114 d115 d116 d117 d118 d119 d120 d121 d122 d123 d124 d125 d126 d127 d128 d129 d130 d131 d132 d133 d134 d135 d136 d137 d138 d139 d140 d141 d142 d143 d144 d145 d146 d147 d148 d149 d150 d151 d152 d153 d154 d155 d156 d157 d158 d159 d160 d161 d162 d163 d164 d165 d166 d167 d168 d169 d170 d171 d172 d173 d174 d175 d176 d177 d178 d179 d180 d181 d182 d183 d184 d185 d186 d187 d188 d189 d190 d191 d192 d193 d194 d195 d196 d197 d198 d199 d200 d201 d202 d203 d204 d205 d206 d207 d208 d209 d210 d211 d212 d213 d214 d215 d216 d217 d218 d219 d220 d221 d222 d223 d224 d225 d226 d227 d228 d229 d230 d231 d232 d233 d234 d235 d236 d237 d238 d239 d240 d241 d242 d243 d244 d245 d246 d247 d248 d249 d250 d251 d252 d253 d254 d255 d256 d257 d258 d259 d260 d261 d262 d263 d264 d265 d266 d267 d268 d269 d270 d271 d272 d273 d274 d275 d276 d277 d278 d279 d280 d281 d282 d283 d284 d285 d286 d287 d288 d289 d290 d291 d292 d293 d294 d295 d296 d297 d298 d299 d300 d301 d302 d303 d304 d305 d306 d307:Value) (L:List Cond) (a:Option Addr) (c:Nat) (wr:World),(V.grownBy wr (some q7)/\wr.heap[q7]? = some (.cells #[.int .i64 kd,.string tb,.string ⟨#[]⟩,.slice none 0 0,.slice none 0 0,.slice none 0 0,.slice none 0 0,.slice a L.length c,.string ⟨#[]⟩,.string ⟨#[]⟩,.string ⟨#[]⟩,.int .i64 0,.slice none 0 0,.int .i64 0,.int .i64 0] 39 (0,0))/\Lst condR q7 wr a c L/\L.length<=2/\∀ x ∈ L,CondOk x)->Q .normal ⟨#[g0,g1,g2,.slice (some ⟨q3,0,none⟩) 16 16,g4,.slice (some ⟨q5,0,none⟩) 6 6,.slice (some ⟨q6,0,none⟩) 6 6,.pointer (some ⟨q7,0,none⟩),d8,d9,d10,d11,d12,d13,d14,d15,d16,d17,d18,d19,d20,d21,d22,d23,d24,d25,d26,d27,d28,d29,d30,d31,d32,d33,d34,d35,d36,d37,d38,d39,d40,d41,d42,d43,d44,d45,d46,d47,d48,d49,d50,d51,d52,d53,d54,d55,d56,d57,d58,d59,d60,d61,d62,d63,d64,d65,d66,d67,d68,d69,d70,d71,d72,d73,d74,d75,d76,d77,d78,d79,d80,d81,d82,d83,d84,d85,d86,d87,d88,d89,d90,d91,d92,d93,d94,d95,d96,d97,d98,d99,d100,d101,d102,d103,d104,d105,d106,d107,d108,d109,d110,d111,d112,d113,d114,d115,d116,d117,d118,d119,d120,d121,d122,d123,d124,d125,d126,d127,d128,d129,d130,d131,d132,d133,d134,d135,d136,d137,d138,d139,d140,d141,d142,d143,d144,d145,d146,d147,d148,d149,d150,d151,d152,d153,d154,d155,d156,d157,d158,d159,d160,d161,d162,d163,d164,d165,d166,d167,d168,d169,d170,d171,d172,d173,d174,d175,d176,d177,d178,d179,d180,d181,d182,d183,d184,d185,d186,d187,d188,d189,d190,d191,d192,d193,d194,d195,d196,d197,d198,d199,d200,d201,d202,d203,d204,d205,d206,d207,d208,d209,d210,d211,d212,d213,d214,d215,d216,d217,d218,d219,d220,d221,d222,d223,d224,d225,d226,d227,d228,d229,d230,d231,d232,d233,d234,d235,d236,d237,d238,d239,d240,d241,d242,d243,d244,d245,d246,d247,d248,d249,d250,d251,d252,d253,d254,d255,d256,d257,d258,d259,d260,d261,d262,d263,d264,d265,d266,d267,d268,d269,d270,d271,d272,d273,d274,d275,d276,d277,d278,d279,d280,d281,d282,d283,d284,d285,d286,d287,d288,d289,d290,d291,d292,d293,d294,d295,d296,d297,d298,d299,d300,d301,d302,d303,d304,d305,d306,d307],[]⟩ wr):Code.wp Tryz.prog mcodeW Q ⟨#[g0,g1,g2,.slice (some ⟨q3,0,none⟩) 16 16,g4,.slice (some ⟨q5,0,none⟩) 6 6,.slice (some ⟨q6,0,none⟩) 6 6,.pointer (some ⟨q7,0,none⟩),.int .i64 0,g9,g10,g11,g12,g13,g14,g15,g16,g17,g18,g19,g20,g21,g22,g23,g24,g25,g26,g27,g28,g29,g30,g31,g32,g33,g34,g35,g36,g37,g38,g39,g40,g41,g42,g43,g44,g45,g46,g47,g48,g49,g50,g51,g52,g53,g54,g55,g56,g57,g58,g59,g60,g61,g62,g63,g64,g65,g66,g67,g68,g69,g70,g71,g72,g73,g74,g75,g76,g77,g78,g79,g80,g81,g82,g83,g84,g85,g86,g87,g88,g89,g90,g91,g92,g93,g94,g95,g96,g97,g98,g99,g100,g101,g102,g103,g104,g105,g106,g107,g108,g109,g110,g111,g112,g113,g114,g115,g116,g117,g118,g119,g120,g121,g122,g123,g124,g125,g126,g127,g128,g129,g130,g131,g132,g133,g134,g135,g136,g137,g138,g139,g140,g141,g142,g143,g144,g145,g146,g147,g148,g149,g150,g151,g152,g153,g154,g155,g156,g157,g158,g159,g160,g161,g162,g163,g164,g165,g166,g167,g168,g169,g170,g171,g172,g173,g174,g175,g176,g177,g178,g179,g180,g181,g182,g183,g184,g185,g186,g187,g188,g189,g190,g191,g192,g193,g194,g195,g196,g197,g198,g199,g200,g201,g202,g203,g204,g205,g206,g207,g208,g209,g210,g211,g212,g213,g214,g215,g216,g217,g218,g219,g220,g221,g222,g223,g224,g225,g226,g227,g228,g229,g230,g231,g232,g233,g234,g235,g236,g237,g238,g239,g240,g241,g242,g243,g244,g245,g246,g247,g248,g249,g250,g251,g252,g253,g254,g255,g256,g257,g258,g259,g260,g261,g262,g263,g264,g265,g266,g267,g268,g269,g270,g271,g272,g273,g274,g275,g276,g277,g278,g279,g280,g281,g282,g283,g284,g285,g286,g287,g288,g289,g290,g291,g292,g293,g294,g295,g296,g297,g298,g299,g300,g301,g302,g303,g304,g305,g306,g307],[]⟩ V:=by
 conv=>arg 2;whnf
 try dsimp only
 have HRN:=hid HRN0
 have HB0:=hid (HRN0 x0 (by simp))
 have HB1:=hid (HRN0 x1 (by simp))
 have HB2:=hid (HRN0 x2 (by simp))
 have HB3:=hid (HRN0 x3 (by simp))
 have HB4:=hid (HRN0 x4 (by simp))
 have HB5:=hid (HRN0 x5 (by simp))
 have HB6:=hid (HRN0 x6 (by simp))
 have HB7:=hid (HRN0 x7 (by simp))
 have HB8:=hid (HRN0 x8 (by simp))
 have HB9:=hid (HRN0 x9 (by simp))
 have HB10:=hid (HRN0 x10 (by simp))
 have HB11:=hid (HRN0 x11 (by simp))
 have HB12:=hid (HRN0 x12 (by simp))
 have HB13:=hid (HRN0 x13 (by simp))
 have HB14:=hid (HRN0 x14 (by simp))
 have HB15:=hid (HRN0 x15 (by simp))
 have Cq3:=hid H3
 have Cq5:=hid H5
 have Cq6:=hid H6
 have Cq7:=hid H7
 have L37:=hid (show q3<q7/\q5<q7/\q6<q7/\True from ⟨H37.1,H37.2.1,H37.2.2,trivial⟩)
 have GV:=hid (grownBy_refl V (some q7))
 have HQ:=hid hQ
 obtain ⟨iC,hC,hC0,hC1,hC2⟩:=info_parts info_mc
 clear HRN0 H3 H5 H6 H37 H7 hQ
 go_upto_block 2 with (fail)
 go_wp2_with fail
 go_loopw [8] (fun x8 wr=>∃ (i:Nat) (L:List Cond) (a:Option Addr) (c:Nat),i<=2/\x8=.int .i64 i/\Hid (L.length=i/\V.grownBy wr (some q7)/\wr.heap[q7]? = some (.cells #[.int .i64 kd,.string tb,.string ⟨#[]⟩,.slice none 0 0,.slice none 0 0,.slice none 0 0,.slice none 0 0,.slice a i c,.string ⟨#[]⟩,.string ⟨#[]⟩,.string ⟨#[]⟩,.int .i64 0,.slice none 0 0,.int .i64 0,.int .i64 0] 39 (0,0))/\wr.ownsRow V.heap.size 60 5 (.slice a i c) i (L.flatMap condEnc)/\(L=[]->a=none/\c=0)/\∀ x ∈ L,CondOk x)) (fun x8 _=>3 - (intOf x8).toNat)
 case atStart=>exact ⟨0,[],none,0,by omega,rfl,rfl,grownBy_refl _ _,Cq7.out,World.ownsRow_nil _ _ _ _,fun _=>⟨rfl,rfl⟩,fun x hx=>by cases hx⟩
 case round =>
  obtain ⟨i,L,a,c,hi2,rfl,HR⟩:=hrel
  have Rq3:=hid ((HR.out.2.1.block _ (jB Cq3.out) (fun e=>Nat.ne_of_lt L37.out.1 (jI e))).trans Cq3.out)
  have Rq6:=hid ((HR.out.2.1.block _ (jB Cq6.out) (fun e=>Nat.ne_of_lt L37.out.2.2.1 (jI e))).trans Cq6.out)
  have Rq7:=hid HR.out.2.2.1
  have c2:=jC Rq3.out 2
  simp only [gT,gZ,gS] at c2
  have bx2:=HB2.out
  by_cases hlt:(i:Int)<x2 % 3
  · skip
    have hi1:i<=1:=by omega
    obtain ⟨y3,hy3⟩:∃ y,nS [x0,x1,x2,x3,x4,x5,x6,x7,x8,x9,x10,x11,x12,x13,x14,x15] (3+(i:Int))=y:=⟨_,rfl⟩
    have HY3:=hid (show ∀ z:World,z.heap[q3]? = some (.cells #[.int .i64 x0,.int .i64 x1,.int .i64 x2,.int .i64 x3,.int .i64 x4,.int .i64 x5,.int .i64 x6,.int .i64 x7,.int .i64 x8,.int .i64 x9,.int .i64 x10,.int .i64 x11,.int .i64 x12,.int .i64 x13,.int .i64 x14,.int .i64 x15] 3 (0,0))->z.cell? ⟨q3,(3+(i:Int)).toNat,none⟩=some (.int .i64 y3) from fun z h=>by rw [<- hy3];exact num_at (X:=[x0,x1,x2,x3,x4,x5,x6,x7,x8,x9,x10,x11,x12,x13,x14,x15]) rfl h _ (by omega) (by omega))
    have HBy3:=hid (show 0<=y3/\y3<=65535 by rw [<- hy3];exact nS_bd HRN.out _)
    clear hy3
    obtain ⟨y5,hy5⟩:∃ y,nS [x0,x1,x2,x3,x4,x5,x6,x7,x8,x9,x10,x11,x12,x13,x14,x15] (5+(i:Int))=y:=⟨_,rfl⟩
    have HY5:=hid (show ∀ z:World,z.heap[q3]? = some (.cells #[.int .i64 x0,.int .i64 x1,.int .i64 x2,.int .i64 x3,.int .i64 x4,.int .i64 x5,.int .i64 x6,.int .i64 x7,.int .i64 x8,.int .i64 x9,.int .i64 x10,.int .i64 x11,.int .i64 x12,.int .i64 x13,.int .i64 x14,.int .i64 x15] 3 (0,0))->z.cell? ⟨q3,(5+(i:Int)).toNat,none⟩=some (.int .i64 y5) from fun z h=>by rw [<- hy5];exact num_at (X:=[x0,x1,x2,x3,x4,x5,x6,x7,x8,x9,x10,x11,x12,x13,x14,x15]) rfl h _ (by omega) (by omega))
    have HBy5:=hid (show 0<=y5/\y5<=65535 by rw [<- hy5];exact nS_bd HRN.out _)
    clear hy5
    obtain ⟨y7,hy7⟩:∃ y,nS [x0,x1,x2,x3,x4,x5,x6,x7,x8,x9,x10,x11,x12,x13,x14,x15] (7+(i:Int))=y:=⟨_,rfl⟩
    have HY7:=hid (show ∀ z:World,z.heap[q3]? = some (.cells #[.int .i64 x0,.int .i64 x1,.int .i64 x2,.int .i64 x3,.int .i64 x4,.int .i64 x5,.int .i64 x6,.int .i64 x7,.int .i64 x8,.int .i64 x9,.int .i64 x10,.int .i64 x11,.int .i64 x12,.int .i64 x13,.int .i64 x14,.int .i64 x15] 3 (0,0))->z.cell? ⟨q3,(7+(i:Int)).toNat,none⟩=some (.int .i64 y7) from fun z h=>by rw [<- hy7];exact num_at (X:=[x0,x1,x2,x3,x4,x5,x6,x7,x8,x9,x10,x11,x12,x13,x14,x15]) rfl h _ (by omega) (by omega))
    have HBy7:=hid (show 0<=y7/\y7<=65535 by rw [<- hy7];exact nS_bd HRN.out _)
    clear hy7
    have Nq3:=hid (own_neB HR.out.2.2.2.1 (jB Cq3.out))
    have Nq6:=hid (own_neB HR.out.2.2.2.1 (jB Cq6.out))
    have Nq7:=hid (own_neB HR.out.2.2.2.1 (jB Cq7.out))
    have HNB:=hid (show ∀ b,(Value.slice a i c).ownBlock=some b->b<wr.heap.size from fun b e=>(HR.out.2.2.2.1.lt b e).2)
    have HSZ:=hid HR.out.2.1.size
    go_upto_region 12 with (fail)
    clear c2 bx2
    apply wp_region_growg 27 26 (Value.slice a i c).ownBlock [57,58,59,60,61,62,63,64,65,66,67,68,69,70,71,72,73,74,75,76,77,78,79,80,81,82,83]
     [fun _ u _=>u=.pointer (some ⟨q7,7,none⟩),
      fun _ u _=>u=.slice a i c,
      fun _ u _=>u=.slice (some ⟨q6,0,none⟩) 6 6,
      fun _ u _=>u=.slice (some ⟨q3,0,none⟩) 16 16,
      fun _ u _=>u=.int .i64 ((i:Int)),
      fun _ u _=>u=.int .i64 (3+(i:Int)),
      fun _ u _=>u=.pointer (some ⟨q3,(3+(i:Int)).toNat,none⟩),
      fun _ u _=>u=.int .i64 y3,
      fun _ u _=>u=.int .i64 (y3 % 6),
      fun _ u _=>u=.pointer (some ⟨q6,(y3 % 6).toNat,none⟩),
      fun _ u _=>u=.string (mcS (y3 % 6)),
      fun _ u _=>u=.slice (some ⟨q3,0,none⟩) 16 16,
      fun _ u _=>u=.int .i64 ((i:Int)),
      fun _ u _=>u=.int .i64 (5+(i:Int)),
      fun _ u _=>u=.pointer (some ⟨q3,(5+(i:Int)).toNat,none⟩),
      fun _ u _=>u=.int .i64 y5,
      fun _ u _=>u=.int .i64 (y5 % 6),
      fun _ u _=>u=.int .i64 (1+y5 % 6),
      fun _ u _=>u=.slice (some ⟨q3,0,none⟩) 16 16,
      fun _ u _=>u=.int .i64 ((i:Int)),
      fun _ u _=>u=.int .i64 (7+(i:Int)),
      fun _ u _=>u=.pointer (some ⟨q3,(7+(i:Int)).toNat,none⟩),
      fun _ u _=>u=.int .i64 y7,
      fun _ u _=>ValU u,
      fun _ u _=>CondU u,
      fun _ u w'=>NewEl condEnc CondOk 60 wr.heap.size u w',
      fun _ u w'=>AppEl condEnc CondOk 60 5 V.heap.size i L u w']
     (fun w'=>wr.grownBy w' (Value.slice a i c).ownBlock) (Below wr.heap.size wr)
    case hF =>
     intro v
     simp only [setAll,List.foldl_cons,List.foldl_nil,Act.put,List.setIfInBounds_toArray,List.set_cons_succ,List.set_cons_zero]
     exact rfl
    case hm=>kernel_rfl
    case hB=>kernel_rfl
    case hsz=>kernel_rfl
    case hC=>exact fun w1 w2 h b=>h.trans b
    case hCp=>exact fun w1 w2 h b=>h.trans (b.mono h.size)
    case hw=>exact grownBy_of_below _ (Below.drew b0R)
    case hwp=>exact Below.drew b0R
    case hS =>
     intro j D hD v u
     obtain ⟨hj,rfl⟩:=List.getElem?_eq_some_iff.1 hD
     simp only [List.length_cons,List.length_nil] at hj
     rcases (show j=0 \/ j=1 \/ j=2 \/ j=3 \/ j=4 \/ j=5 \/ j=6 \/ j=7 \/ j=8 \/ j=9 \/ j=10 \/ j=11 \/ j=12 \/ j=13 \/ j=14 \/ j=15 \/ j=16 \/ j=17 \/ j=18 \/ j=19 \/ j=20 \/ j=21 \/ j=22 \/ j=23 \/ j=24 \/ j=25 \/ j=26 by omega) with rfl|rfl|rfl|rfl|rfl|rfl|rfl|rfl|rfl|rfl|rfl|rfl|rfl|rfl|rfl|rfl|rfl|rfl|rfl|rfl|rfl|rfl|rfl|rfl|rfl|rfl|rfl
     · show StableG (Value.slice a i c).ownBlock _
       exact fun w1 w2 h _=>h
     · show StableG (Value.slice a i c).ownBlock _
       exact fun w1 w2 h _=>h
     · show StableG (Value.slice a i c).ownBlock _
       exact fun w1 w2 h _=>h
     · show StableG (Value.slice a i c).ownBlock _
       exact fun w1 w2 h _=>h
     · show StableG (Value.slice a i c).ownBlock _
       exact fun w1 w2 h _=>h
     · show StableG (Value.slice a i c).ownBlock _
       exact fun w1 w2 h _=>h
     · show StableG (Value.slice a i c).ownBlock _
       exact fun w1 w2 h _=>h
     · show StableG (Value.slice a i c).ownBlock _
       exact fun w1 w2 h _=>h
     · show StableG (Value.slice a i c).ownBlock _
       exact fun w1 w2 h _=>h
     · show StableG (Value.slice a i c).ownBlock _
       exact fun w1 w2 h _=>h
     · show StableG (Value.slice a i c).ownBlock _
       exact fun w1 w2 h _=>h
     · show StableG (Value.slice a i c).ownBlock _
       exact fun w1 w2 h _=>h
     · show StableG (Value.slice a i c).ownBlock _
       exact fun w1 w2 h _=>h
     · show StableG (Value.slice a i c).ownBlock _
       exact fun w1 w2 h _=>h
     · show StableG (Value.slice a i c).ownBlock _
       exact fun w1 w2 h _=>h
     · show StableG (Value.slice a i c).ownBlock _
       exact fun w1 w2 h _=>h
     · show StableG (Value.slice a i c).ownBlock _
       exact fun w1 w2 h _=>h
     · show StableG (Value.slice a i c).ownBlock _
       exact fun w1 w2 h _=>h
     · show StableG (Value.slice a i c).ownBlock _
       exact fun w1 w2 h _=>h
     · show StableG (Value.slice a i c).ownBlock _
       exact fun w1 w2 h _=>h
     · show StableG (Value.slice a i c).ownBlock _
       exact fun w1 w2 h _=>h
     · show StableG (Value.slice a i c).ownBlock _
       exact fun w1 w2 h _=>h
     · show StableG (Value.slice a i c).ownBlock _
       exact fun w1 w2 h _=>h
     · show StableG (Value.slice a i c).ownBlock _
       exact fun w1 w2 h _=>h
     · show StableG (Value.slice a i c).ownBlock _
       exact fun w1 w2 h _=>h
     · show StableG (Value.slice a i c).ownBlock _
       exact fun w1 w2 h hb=>h.grown HNB.out hb
     · show Stable _
       exact fun w1 w2 h hb=>h.below hb
    case hob =>
     simp only [List.take_succ_cons,List.take_zero]
     apply growg_cons rfl
     · intro v w1 h1 hd
       clear hd
       clear h1
       go_wp2_with fail
       first|exact ⟨rfl,_,rfl,Below.refl _ _,rfl⟩|exact Below.refl _ _|exact ⟨Below.refl _ _,rfl⟩
     apply growg_cons rfl
     · intro v w1 h1 hd
       have g57:v 57=.pointer (some ⟨q7,7,none⟩):=hd 0 _ _ _ rfl rfl rfl rfl
       clear hd
       rw [g57]
       have c0:=jC ((h1.block _ (jB Rq7.out) Nq7.out).trans Rq7.out) 7
       simp only [gT,gZ,gS] at c0
       clear g57 h1
       go_wp2_with fail
       first|exact ⟨rfl,_,rfl,Below.refl _ _,rfl⟩|exact Below.refl _ _|exact ⟨Below.refl _ _,rfl⟩
     apply growg_cons rfl
     · intro v w1 h1 hd
       clear hd
       clear h1
       go_wp2_with fail
       first|exact ⟨rfl,_,rfl,Below.refl _ _,rfl⟩|exact Below.refl _ _|exact ⟨Below.refl _ _,rfl⟩
     apply growg_cons rfl
     · intro v w1 h1 hd
       clear hd
       clear h1
       go_wp2_with fail
       first|exact ⟨rfl,_,rfl,Below.refl _ _,rfl⟩|exact Below.refl _ _|exact ⟨Below.refl _ _,rfl⟩
     apply growg_cons rfl
     · intro v w1 h1 hd
       clear hd
       clear h1
       go_wp2_with fail
       first|exact ⟨rfl,_,rfl,Below.refl _ _,rfl⟩|exact Below.refl _ _|exact ⟨Below.refl _ _,rfl⟩
     apply growg_cons rfl
     · intro v w1 h1 hd
       have g61:v 61=.int .i64 ((i:Int)):=hd 4 _ _ _ rfl rfl rfl rfl
       clear hd
       rw [g61]
       clear g61 h1
       go_wp2_with fail
       first|exact ⟨rfl,_,rfl,Below.refl _ _,rfl⟩|exact Below.refl _ _|exact ⟨Below.refl _ _,rfl⟩
     apply growg_cons rfl
     · intro v w1 h1 hd
       have g60:v 60=.slice (some ⟨q3,0,none⟩) 16 16:=hd 3 _ _ _ rfl rfl rfl rfl
       have g62:v 62=.int .i64 (3+(i:Int)):=hd 5 _ _ _ rfl rfl rfl rfl
       clear hd
       rw [g60,g62]
       have by0:0<=3+(i:Int)/\3+(i:Int)<16:=by omega
       clear g60 g62 h1
       go_wp2_with fail
       first|exact ⟨rfl,_,rfl,Below.refl _ _,rfl⟩|exact Below.refl _ _|exact ⟨Below.refl _ _,rfl⟩
     apply growg_cons rfl
     · intro v w1 h1 hd
       have g63:v 63=.pointer (some ⟨q3,(3+(i:Int)).toNat,none⟩):=hd 6 _ _ _ rfl rfl rfl rfl
       clear hd
       rw [g63]
       have c0:=HY3.out _ ((h1.block _ (jB Rq3.out) Nq3.out).trans Rq3.out)
       clear g63 h1
       go_wp2_with fail
       first|exact ⟨rfl,_,rfl,Below.refl _ _,rfl⟩|exact Below.refl _ _|exact ⟨Below.refl _ _,rfl⟩
     apply growg_cons rfl
     · intro v w1 h1 hd
       have g64:v 64=.int .i64 y3:=hd 7 _ _ _ rfl rfl rfl rfl
       clear hd
       rw [g64]
       have by3:=HBy3.out
       clear g64 h1
       go_wp2_with fail
       first|exact ⟨rfl,_,rfl,Below.refl _ _,rfl⟩|exact Below.refl _ _|exact ⟨Below.refl _ _,rfl⟩
     apply growg_cons rfl
     · intro v w1 h1 hd
       have g59:v 59=.slice (some ⟨q6,0,none⟩) 6 6:=hd 2 _ _ _ rfl rfl rfl rfl
       have g65:v 65=.int .i64 (y3 % 6):=hd 8 _ _ _ rfl rfl rfl rfl
       clear hd
       rw [g59,g65]
       have by3:=HBy3.out
       have by0:0<=y3 % 6/\y3 % 6<6:=by omega
       clear g59 g65 h1
       go_wp2_with fail
       first|exact ⟨rfl,_,rfl,Below.refl _ _,rfl⟩|exact Below.refl _ _|exact ⟨Below.refl _ _,rfl⟩
     apply growg_cons rfl
     · intro v w1 h1 hd
       have g66:v 66=.pointer (some ⟨q6,(y3 % 6).toNat,none⟩):=hd 9 _ _ _ rfl rfl rfl rfl
       clear hd
       rw [g66]
       have by3:=HBy3.out
       have by0:0<=y3 % 6/\y3 % 6<6:=by omega
       have c0:=col_at6 ((h1.block _ (jB Rq6.out) Nq6.out).trans Rq6.out) (y3 % 6) by0.1 by0.2
       clear g66 h1
       go_wp2_with fail
       first|exact ⟨rfl,_,rfl,Below.refl _ _,rfl⟩|exact Below.refl _ _|exact ⟨Below.refl _ _,rfl⟩
     apply growg_cons rfl
     · intro v w1 h1 hd
       clear hd
       clear h1
       go_wp2_with fail
       first|exact ⟨rfl,_,rfl,Below.refl _ _,rfl⟩|exact Below.refl _ _|exact ⟨Below.refl _ _,rfl⟩
     apply growg_cons rfl
     · intro v w1 h1 hd
       clear hd
       clear h1
       go_wp2_with fail
       first|exact ⟨rfl,_,rfl,Below.refl _ _,rfl⟩|exact Below.refl _ _|exact ⟨Below.refl _ _,rfl⟩
     apply growg_cons rfl
     · intro v w1 h1 hd
       have g69:v 69=.int .i64 ((i:Int)):=hd 12 _ _ _ rfl rfl rfl rfl
       clear hd
       rw [g69]
       clear g69 h1
       go_wp2_with fail
       first|exact ⟨rfl,_,rfl,Below.refl _ _,rfl⟩|exact Below.refl _ _|exact ⟨Below.refl _ _,rfl⟩
     apply growg_cons rfl
     · intro v w1 h1 hd
       have g68:v 68=.slice (some ⟨q3,0,none⟩) 16 16:=hd 11 _ _ _ rfl rfl rfl rfl
       have g70:v 70=.int .i64 (5+(i:Int)):=hd 13 _ _ _ rfl rfl rfl rfl
       clear hd
       rw [g68,g70]
       have by0:0<=5+(i:Int)/\5+(i:Int)<16:=by omega
       clear g68 g70 h1
       go_wp2_with fail
       first|exact ⟨rfl,_,rfl,Below.refl _ _,rfl⟩|exact Below.refl _ _|exact ⟨Below.refl _ _,rfl⟩
     apply growg_cons rfl
     · intro v w1 h1 hd
       have g71:v 71=.pointer (some ⟨q3,(5+(i:Int)).toNat,none⟩):=hd 14 _ _ _ rfl rfl rfl rfl
       clear hd
       rw [g71]
       have c0:=HY5.out _ ((h1.block _ (jB Rq3.out) Nq3.out).trans Rq3.out)
       clear g71 h1
       go_wp2_with fail
       first|exact ⟨rfl,_,rfl,Below.refl _ _,rfl⟩|exact Below.refl _ _|exact ⟨Below.refl _ _,rfl⟩
     apply growg_cons rfl
     · intro v w1 h1 hd
       have g72:v 72=.int .i64 y5:=hd 15 _ _ _ rfl rfl rfl rfl
       clear hd
       rw [g72]
       have by5:=HBy5.out
       clear g72 h1
       go_wp2_with fail
       first|exact ⟨rfl,_,rfl,Below.refl _ _,rfl⟩|exact Below.refl _ _|exact ⟨Below.refl _ _,rfl⟩
     apply growg_cons rfl
     · intro v w1 h1 hd
       have g73:v 73=.int .i64 (y5 % 6):=hd 16 _ _ _ rfl rfl rfl rfl
       clear hd
       rw [g73]
       have by5:=HBy5.out
       have by0:0<=y5 % 6/\y5 % 6<=65535:=by omega
       clear g73 h1
       go_wp2_with fail
       first|exact ⟨rfl,_,rfl,Below.refl _ _,rfl⟩|exact Below.refl _ _|exact ⟨Below.refl _ _,rfl⟩
     apply growg_cons rfl
     · intro v w1 h1 hd
       clear hd
       clear h1
       go_wp2_with fail
       first|exact ⟨rfl,_,rfl,Below.refl _ _,rfl⟩|exact Below.refl _ _|exact ⟨Below.refl _ _,rfl⟩
     apply growg_cons rfl
     · intro v w1 h1 hd
       clear hd
       clear h1
       go_wp2_with fail
       first|exact ⟨rfl,_,rfl,Below.refl _ _,rfl⟩|exact Below.refl _ _|exact ⟨Below.refl _ _,rfl⟩
     apply growg_cons rfl
     · intro v w1 h1 hd
       have g76:v 76=.int .i64 ((i:Int)):=hd 19 _ _ _ rfl rfl rfl rfl
       clear hd
       rw [g76]
       clear g76 h1
       go_wp2_with fail
       first|exact ⟨rfl,_,rfl,Below.refl _ _,rfl⟩|exact Below.refl _ _|exact ⟨Below.refl _ _,rfl⟩
     apply growg_cons rfl
     · intro v w1 h1 hd
       have g75:v 75=.slice (some ⟨q3,0,none⟩) 16 16:=hd 18 _ _ _ rfl rfl rfl rfl
       have g77:v 77=.int .i64 (7+(i:Int)):=hd 20 _ _ _ rfl rfl rfl rfl
       clear hd
       rw [g75,g77]
       have by0:0<=7+(i:Int)/\7+(i:Int)<16:=by omega
       clear g75 g77 h1
       go_wp2_with fail
       first|exact ⟨rfl,_,rfl,Below.refl _ _,rfl⟩|exact Below.refl _ _|exact ⟨Below.refl _ _,rfl⟩
     apply growg_cons rfl
     · intro v w1 h1 hd
       have g78:v 78=.pointer (some ⟨q3,(7+(i:Int)).toNat,none⟩):=hd 21 _ _ _ rfl rfl rfl rfl
       clear hd
       rw [g78]
       have c0:=HY7.out _ ((h1.block _ (jB Rq3.out) Nq3.out).trans Rq3.out)
       clear g78 h1
       go_wp2_with fail
       first|exact ⟨rfl,_,rfl,Below.refl _ _,rfl⟩|exact Below.refl _ _|exact ⟨Below.refl _ _,rfl⟩
     apply growg_cons rfl
     · intro v w1 h1 hd
       have g1:v 79=.int .i64 y7:=hd 22 _ _ _ rfl rfl rfl rfl
       clear hd
       rw [g1]
       have con:=mval_any y7 HBy7.out.1 HBy7.out.2 w1
       clear g1 h1
       go_wp2_with fail
       refine con.mono ?_
       rintro e w2 ⟨⟨vv,rfl,hv⟩,b2⟩
       have B2:=hid b2
       have H2:=hid (show ValU (.agg #[.int .i64 vv.kind,.int .i64 vv.n,.string vv.s]) from ⟨vv,hv,rfl⟩)
       clear con b2 hv
       try dsimp only
       go_wp2_with fail
       exact ⟨rfl,_,rfl,B2.out,H2.out⟩
     apply growg_cons rfl
     · intro v w1 h1 hd
       have g1:v 67=.string (mcS (y3 % 6)):=hd 10 _ _ _ rfl rfl rfl rfl
       have g2:v 74=.int .i64 (1+y5 % 6):=hd 17 _ _ _ rfl rfl rfl rfl
       obtain ⟨vv,hv,g3⟩:ValU (v 80):=hd 23 _ _ _ rfl rfl rfl rfl
       clear hd
       rw [g1,g2,g3]
       have H2:=hid (show CondU (.agg #[.string (mcS (y3 % 6)),.int .i64 (1+y5 % 6),.int .i64 vv.kind,.int .i64 vv.n,.string vv.s]) from ⟨⟨mcS (y3 % 6),1+y5 % 6,vv⟩,⟨mcS_size _,hv⟩,rfl⟩)
       clear g1 g2 g3 hv h1
       go_wp2_with fail
       exact ⟨rfl,_,rfl,Below.refl _ _,H2.out⟩
     apply growg_cons rfl
     · intro v w1 h1 hd
       obtain ⟨cc,hcc,g1⟩:CondU (v 81):=hd 24 _ _ _ rfl rfl rfl rfl
       clear hd
       rw [g1]
       have HSW:=hid h1.size
       have HCC:=hid hcc
       clear g1 hcc h1
       go_wp2_with fail
       have hb3:Below w1.heap.size w1 (w1.alloc (.cells #[.string cc.col,.int .i64 cc.op,.int .i64 cc.val.kind,.int .i64 cc.val.n,.string cc.val.s] 60)):=(b0R).alloc (jR _) _
       have hn:NewEl condEnc CondOk 60 wr.heap.size (.slice (some ⟨w1.heap.size,0,none⟩) 1 1) (w1.alloc (.cells #[.string cc.col,.int .i64 cc.op,.int .i64 cc.val.kind,.int .i64 cc.val.n,.string cc.val.s] 60)):=⟨cc,_,HCC.out,rfl,HSW.out,heap_alloc_new _ _⟩
       exact ⟨rfl,_,rfl,hb3,hn⟩
     apply growg_one rfl
     · intro v w1 h1 hp hd
       have g1:v 58=.slice a i c:=hd 1 _ _ _ rfl rfl rfl rfl
       obtain ⟨xx,gn,hxx,g2,_,hgn⟩:NewEl condEnc CondOk 60 wr.heap.size (v 82) w1:=hd 25 _ _ _ rfl rfl rfl rfl
       clear hd
       rw [g1,g2]
       have HO:=hid (owns_below HR.out.2.2.2.1 hp)
       have hs1:=Nat.le_trans HSZ.out hp.size
       refine wpList_append_own_at _ rfl _ _ 37 rfl V.heap.size 60 iC _ 5 56 Tryz.underlying37 hC hC0 hC1 hC2 rfl (by decide) (.slice a i c) i _ rfl HO.out ⟨gn,0,none⟩ 1 1 (condEnc xx) rfl rfl (fun j u hj=>by rw [addr_add,jC hgn];simpa using hj) (condEnc_cells xx) (by unfold maxLen;omega) (by omega) (by omega) ?_
       intro v' w8 o1 g3 hx1 at1
       obtain ⟨va,vc,hv',_⟩:=owns_shape' o1
       subst hv'
       exact wpList_nil ⟨rfl,_,rfl,g3,xx,va,vc,hxx,rfl,by rw [List.flatMap_append];simpa using o1⟩
     exact growg_nil
    case hend =>
     intro v w9 h1 hd
     obtain ⟨xx,va,vc,hxx,g83,o9⟩:AppEl condEnc CondOk 60 5 V.heap.size i L (v 83) w9:=hd 26 _ _ _ rfl rfl rfl
     clear hd
     rw [g83]
     have hz:=(h1.block _ (jB Rq7.out) Nq7.out).trans Rq7.out
     have m7:=jC hz 7
     have n7:=free_of hz 7
     simp only [gT,gZ,gS] at m7
     have HZ:=hid hz
     have HX:=hid (show _/\_/\_ from ⟨hxx,o9,h1⟩)
     clear g83 hz hxx o9 h1
     generalize v 57=k57,v 58=k58,v 59=k59,v 60=k60,v 61=k61,v 62=k62,v 63=k63,v 64=k64,v 65=k65,v 66=k66,v 67=k67,v 68=k68,v 69=k69,v 70=k70,v 71=k71,v 72=k72,v 73=k73,v 74=k74,v 75=k75,v 76=k76,v 77=k77,v 78=k78,v 79=k79,v 80=k80,v 81=k81,v 82=k82
     simp only [List.drop_succ_cons,List.drop_zero]
     go_wp2_with fail
     go_roundw
     case rel =>
      exact ⟨i+1,L ++ [xx],va,vc,by omega,by go_num,by rw [List.length_append,HR.out.1];rfl,grown_tra (loop_grow HR.out.2.1 HX.out.2.2 (fun b e=>(HR.out.2.2.2.1.lt b e).1)) (grown_cell _ ⟨q7,7,none⟩ _),(heap_setCell_same _ _ _ _ _ _ HZ.out).trans rfl,owns_set HX.out.2.1 (jB Cq7.out),fun e=>by simp at e,fun x hx=>by
       rcases List.mem_append.1 hx with hx|hx
       · exact HR.out.2.2.2.2.2 x hx
       · rw [List.mem_singleton.1 hx];exact HX.out.1⟩
     case measure=>simp [intOf];omega
  · have hl:=HR.out.1
    have HL2:=hid (show Lst condR q7 wr a c L from Lst.own (enc:=condEnc) (hl:=fun _=>rfl) (show wr.ownsRow V.heap.size 60 5 (.slice a L.length c) L.length (L.flatMap condEnc) by rw [HR.out.1];exact HR.out.2.2.2.1) (jB Cq7.out) (by rw [HR.out.1];omega) HR.out.2.2.2.2.1)
    have HL3:=hid (show L.length<=2/\∀ x ∈ L,CondOk x from ⟨by rw [HR.out.1];omega,HR.out.2.2.2.2.2⟩)
    have GW:=hid (grown_tra GV.out HR.out.2.1)
    have HFIN:=hid (show V.grownBy wr (some q7)/\wr.heap[q7]? = some (.cells #[.int .i64 kd,.string tb,.string ⟨#[]⟩,.slice none 0 0,.slice none 0 0,.slice none 0 0,.slice none 0 0,.slice a L.length c,.string ⟨#[]⟩,.string ⟨#[]⟩,.string ⟨#[]⟩,.int .i64 0,.slice none 0 0,.int .i64 0,.int .i64 0] 39 (0,0))/\Lst condR q7 wr a c L/\L.length<=2/\∀ x ∈ L,CondOk x from by
     subst hl
     exact ⟨GW.out,HR.out.2.2.1,HL2.out,HL3.out.1,HL3.out.2⟩)
    clear hl
    go_wp2_with fail
    apply HQ.out
    exact HFIN.out
end
section
open Go.RowKit
noncomputable def mcode3:Code:=(Tryz.f36.body.bind (condThen 262)).getD .skip
theorem made_k3 {Q:Exit->Act->World->Prop} {V U:World} {q2 q3 q5 q6 q7:Nat} {x0 x1 x2 x3 x4 x5 x6 x7 x8 x9 x10 x11 x12 x13 x14 x15:Int} {L:List Cond} {a:Option Addr} {c:Nat} {tb:ByteArray} {g0 g1 g2 g4 g8 g9 g10 g11 g12 g13 g14 g15 g16 g17 g18 g19 g20 g21 g22 g23 g24 g25 g26 g27 g28 g29 g30 g31 g32 g33 g34 g35 g36 g37 g38 g39 g40 g41 g42 g43 g44 g45 g46 g47 g48 g49 g50 g51 g52 g53 g54 g55 g56 g57 g58 g59 g60 g61 g62 g63 g64 g65 g66 g67 g68 g69 g70 g71 g72 g73 g74 g75 g76 g77 g78 g79 g80 g81 g82 g83 g84 g85 g86 g87 g88 g89 g90 g91 g92 g93 g94 g95 g96 g97 g98 g99 g100 g101 g102 g103 g104 g105 g106 g107 g108 g109 g110 g111 g112 g113 g114 g115 g116 g117 g118 g119 g120 g121 g122 g123 g124 g125 g126 g127 g128 g129 g130 g131 g132 g133 g134 g135 g136 g137 g138 g139 g140 g141 g142 g143 g144 g145 g146 g147 g148 g149 g150 g151 g152 g153 g154 g155 g156 g157 g158 g159 g160 g161 g162 g163 g164 g165 g166 g167 g168 g169 g170 g171 g172 g173 g174 g175 g176 g177 g178 g179 g180 g181 g182 g183 g184 g185 g186 g187 g188 g189 g190 g191 g192 g193 g194 g195 g196 g197 g198 g199 g200 g201 g202 g203 g204 g205 g206 g207 g208 g209 g210 g211 g212 g213 g214 g215 g216 g217 g218 g219 g220 g221 g222 g223 g224 g225 g226 g227 g228 g229 g230 g231 g232 g233 g234 g235 g236 g237 g238 g239 g240 g241 g242 g243 g244 g245 g246 g247 g248 g249 g250 g251 g252 g253 g254 g255 g256 g257 g258 g259 g260 g261 g262 g263 g264 g265 g266 g267 g268 g269 g270 g271 g272 g273 g274 g275 g276 g277 g278 g279 g280 g281 g282 g283 g284 g285 g286 g287 g288 g289 g290 g291 g292 g293 g294 g295 g296 g297 g298 g299 g300 g301 g302 g303 g304 g305 g306 g307:Value}
 (HRN0:∀ x ∈ [x0,x1,x2,x3,x4,x5,x6,x7,x8,x9,x10,x11,x12,x13,x14,x15],0<=x/\x<=65535) (H3:V.heap[q3]? = some (.cells #[.int .i64 x0,.int .i64 x1,.int .i64 x2,.int .i64 x3,.int .i64 x4,.int .i64 x5,.int .i64 x6,.int .i64 x7,.int .i64 x8,.int .i64 x9,.int .i64 x10,.int .i64 x11,.int .i64 x12,.int .i64 x13,.int .i64 x14,.int .i64 x15] 3 (0,0))) (H5:V.heap[q5]? = some (.cells tabs6 9 (0,0))) (H6:V.heap[q6]? = some (.cells cols6 9 (0,0)))
 (H37:q3<q7/\q5<q7/\q6<q7/\q2<q7) (HV:V.grownBy U (some q7)) (H7:U.heap[q7]? = some (.cells #[.int .i64 3,.string tb,.string ⟨#[]⟩,.slice none 0 0,.slice none 0 0,.slice none 0 0,.slice none 0 0,.slice a L.length c,.string ⟨#[]⟩,.string ⟨#[]⟩,.string ⟨#[]⟩,.int .i64 0,.slice none 0 0,.int .i64 0,.int .i64 0] 39 (0,0))) (HLW:Lst condR q7 U a c L) (HLL:L.length<=2/\∀ x ∈ L,CondOk x) (HTT:tb.size<=1)
 (hQ:∀ (d8 d9 d10 d11 d12 d13 d14 d15 d16 d17 d18 d19 d20 d21 d22 d23 d24 d25 d26 d27 d28 d29 d30 d31 d32 d33 d34 d35 d36 d37 d38 d39 d40 d41 d42 d43 d44 d45 d46 d47 d48 d49 d50 d51 d52 d53 d54 d55 d56 d57 d58 d59 d60 d61 d62 d63 d64 d65 d66 d67 d68 d69 d70 d71 d72 d73 d74 d75 d76 d77 d78 d79 d80 d81 d82 d83 d84 d85 d86 d87 d88 d89 d90 d91 d92 d93 d94 d95 d96 d97 d98 d99 d100 d101 d102 d103 d104 d105 d106 d107 d108 d109 d110 d111 d112 d113 d114 d115 d116 d117 d118 d119 d120 d121 d122 d123 d124 d125 d126 d127 d128 d129 d130 d131 d132 d133 d134 d135 d136 d137 d138 d139 d140 d141 d142 d143 d144 d145 d146 d147 d148 d149 d150 d151 d152 d153 d154 d155 d156 d157 d158 d159 d160 d161 d162 d163 d164 d165 d166 d167 d168 d169 d170 d171 d172 d173 d174 d175 d176 d177 d178 d179 d180 d181 d182 d183 d184 d185 d186 d187 d188 d189 d190 d191 d192 d193 d194 d195 d196 d197 d198 d199 d200 d201 d202 d203 d204 d205 d206 d207 d208 d209 d210 d211 d212 d213 d214 d215 d216 d217 d218 d219 d220 d221 d222 d223 d224 d225 d226 d227 d228 d229 d230 d231 d232 d233 d234 d235 d236 d237 d238 d239 d240 d241 d242 d243 d244 d245 d246 d247 d248 d249 d250 d251 d252 d253 d254 d255 d256 d257 d258 d259 d260 d261 d262 d263 d264 d265 d266 d267 d268 d269 d270 d271 d272 d273 d274 d275 d276 d277 d278 d279 d280 d281 d282 d283 d284 d285 d286 d287 d288 d289 d290 d291 d292 d293 d294 d295 d296 d297 d298 d299 d300 d301 d302 d303 d304 d305 d306 d307:Value) (w':World),StQ V q7 3 w'->Q .normal ⟨#[g0,g1,g2,.slice (some ⟨q3,0,none⟩) 16 16,g4,.slice (some ⟨q5,0,none⟩) 6 6,.slice (some ⟨q6,0,none⟩) 6 6,.pointer (some ⟨q7,0,none⟩),d8,d9,d10,d11,d12,d13,d14,d15,d16,d17,d18,d19,d20,d21,d22,d23,d24,d25,d26,d27,d28,d29,d30,d31,d32,d33,d34,d35,d36,d37,d38,d39,d40,d41,d42,d43,d44,d45,d46,d47,d48,d49,d50,d51,d52,d53,d54,d55,d56,d57,d58,d59,d60,d61,d62,d63,d64,d65,d66,d67,d68,d69,d70,d71,d72,d73,d74,d75,d76,d77,d78,d79,d80,d81,d82,d83,d84,d85,d86,d87,d88,d89,d90,d91,d92,d93,d94,d95,d96,d97,d98,d99,d100,d101,d102,d103,d104,d105,d106,d107,d108,d109,d110,d111,d112,d113,d114,d115,d116,d117,d118,d119,d120,d121,d122,d123,d124,d125,d126,d127,d128,d129,d130,d131,d132,d133,d134,d135,d136,d137,d138,d139,d140,d141,d142,d143,d144,d145,d146,d147,d148,d149,d150,d151,d152,d153,d154,d155,d156,d157,d158,d159,d160,d161,d162,d163,d164,d165,d166,d167,d168,d169,d170,d171,d172,d173,d174,d175,d176,d177,d178,d179,d180,d181,d182,d183,d184,d185,d186,d187,d188,d189,d190,d191,d192,d193,d194,d195,d196,d197,d198,d199,d200,d201,d202,d203,d204,d205,d206,d207,d208,d209,d210,d211,d212,d213,d214,d215,d216,d217,d218,d219,d220,d221,d222,d223,d224,d225,d226,d227,d228,d229,d230,d231,d232,d233,d234,d235,d236,d237,d238,d239,d240,d241,d242,d243,d244,d245,d246,d247,d248,d249,d250,d251,d252,d253,d254,d255,d256,d257,d258,d259,d260,d261,d262,d263,d264,d265,d266,d267,d268,d269,d270,d271,d272,d273,d274,d275,d276,d277,d278,d279,d280,d281,d282,d283,d284,d285,d286,d287,d288,d289,d290,d291,d292,d293,d294,d295,d296,d297,d298,d299,d300,d301,d302,d303,d304,d305,d306,d307],[]⟩ w'):Code.wp Tryz.prog mcode3 Q ⟨#[g0,g1,g2,.slice (some ⟨q3,0,none⟩) 16 16,g4,.slice (some ⟨q5,0,none⟩) 6 6,.slice (some ⟨q6,0,none⟩) 6 6,.pointer (some ⟨q7,0,none⟩),g8,g9,g10,g11,g12,g13,g14,g15,g16,g17,g18,g19,g20,g21,g22,g23,g24,g25,g26,g27,g28,g29,g30,g31,g32,g33,g34,g35,g36,g37,g38,g39,g40,g41,g42,g43,g44,g45,g46,g47,g48,g49,g50,g51,g52,g53,g54,g55,g56,g57,g58,g59,g60,g61,g62,g63,g64,g65,g66,g67,g68,g69,g70,g71,g72,g73,g74,g75,g76,g77,g78,g79,g80,g81,g82,g83,g84,g85,g86,g87,g88,g89,g90,g91,g92,g93,g94,g95,g96,g97,g98,g99,g100,g101,g102,g103,g104,g105,g106,g107,g108,g109,g110,g111,g112,g113,g114,g115,g116,g117,g118,g119,g120,g121,g122,g123,g124,g125,g126,g127,g128,g129,g130,g131,g132,g133,g134,g135,g136,g137,g138,g139,g140,g141,g142,g143,g144,g145,g146,g147,g148,g149,g150,g151,g152,g153,g154,g155,g156,g157,g158,g159,g160,g161,g162,g163,g164,g165,g166,g167,g168,g169,g170,g171,g172,g173,g174,g175,g176,g177,g178,g179,g180,g181,g182,g183,g184,g185,g186,g187,g188,g189,g190,g191,g192,g193,g194,g195,g196,g197,g198,g199,g200,g201,g202,g203,g204,g205,g206,g207,g208,g209,g210,g211,g212,g213,g214,g215,g216,g217,g218,g219,g220,g221,g222,g223,g224,g225,g226,g227,g228,g229,g230,g231,g232,g233,g234,g235,g236,g237,g238,g239,g240,g241,g242,g243,g244,g245,g246,g247,g248,g249,g250,g251,g252,g253,g254,g255,g256,g257,g258,g259,g260,g261,g262,g263,g264,g265,g266,g267,g268,g269,g270,g271,g272,g273,g274,g275,g276,g277,g278,g279,g280,g281,g282,g283,g284,g285,g286,g287,g288,g289,g290,g291,g292,g293,g294,g295,g296,g297,g298,g299,g300,g301,g302,g303,g304,g305,g306,g307],[]⟩ U:=by
 conv=>arg 2;whnf
 have HRN:=hid HRN0
 have HB0:=hid (HRN0 x0 (by simp))
 have HB1:=hid (HRN0 x1 (by simp))
 have HB2:=hid (HRN0 x2 (by simp))
 have HB3:=hid (HRN0 x3 (by simp))
 have HB4:=hid (HRN0 x4 (by simp))
 have HB5:=hid (HRN0 x5 (by simp))
 have HB6:=hid (HRN0 x6 (by simp))
 have HB7:=hid (HRN0 x7 (by simp))
 have HB8:=hid (HRN0 x8 (by simp))
 have HB9:=hid (HRN0 x9 (by simp))
 have HB10:=hid (HRN0 x10 (by simp))
 have HB11:=hid (HRN0 x11 (by simp))
 have HB12:=hid (HRN0 x12 (by simp))
 have HB13:=hid (HRN0 x13 (by simp))
 have HB14:=hid (HRN0 x14 (by simp))
 have HB15:=hid (HRN0 x15 (by simp))
 have Gq3:=hid H3
 have Gq5:=hid H5
 have Gq6:=hid H6
 have L37:=hid H37
 have GV:=hid HV
 have Cq7:=hid H7
 have LW:=hid HLW
 have HL:=hid HLL
 have HTB:=hid HTT
 have Cq3:=hid ((GV.out.block _ (jB Gq3.out) (fun e=>Nat.ne_of_lt L37.out.1 (jI e))).trans Gq3.out)
 have Cq5:=hid ((GV.out.block _ (jB Gq5.out) (fun e=>Nat.ne_of_lt L37.out.2.1 (jI e))).trans Gq5.out)
 have Cq6:=hid ((GV.out.block _ (jB Gq6.out) (fun e=>Nat.ne_of_lt L37.out.2.2.1 (jI e))).trans Gq6.out)
 obtain ⟨iV,hV,hV0,hV1,hV2⟩:=info_parts info_mv
 obtain ⟨iS,hS,hS0,hS1,hS2⟩:=info_parts info_mst
 obtain ⟨iE,hE,hE0,hE1,hE2⟩:=info_parts info_mse
 have HQ:=hid hQ
 clear HRN0 H3 H5 H6 H37 HV H7 HLW HLL HTT hQ
 have m7:=jC Cq7.out 7
 have n7:=free_of Cq7.out 7
 simp only [gT,gZ,gS] at m7
 go_upto_region 44 with (fail)
 generalize hA:World.setCell _ _ _=U1
 have hg:U.grownBy U1 (some q7):=by rw [<- hA];exact grown_cell U ⟨q7,7,none⟩ _
 replace Cq7:=hid (show U1.heap[q7]? = some (.cells #[.int .i64 3,.string tb,.string ⟨#[]⟩,.slice none 0 0,.slice none 0 0,.slice none 0 0,.slice none 0 0,.slice none 0 0,.string ⟨#[]⟩,.string ⟨#[]⟩,.string ⟨#[]⟩,.int .i64 0,.slice none 0 0,.int .i64 0,.int .i64 0] 39 (0,0)) by
  rw [<- hA]
  exact (heap_setCell_same _ _ _ _ _ _ Cq7.out).trans rfl)
 replace GV:=hid (grown_tra GV.out hg)
 replace Cq3:=hid ((GV.out.block _ (jB Gq3.out) (fun e=>Nat.ne_of_lt L37.out.1 (jI e))).trans Gq3.out)
 replace Cq5:=hid ((GV.out.block _ (jB Gq5.out) (fun e=>Nat.ne_of_lt L37.out.2.1 (jI e))).trans Gq5.out)
 replace Cq6:=hid ((GV.out.block _ (jB Gq6.out) (fun e=>Nat.ne_of_lt L37.out.2.2.1 (jI e))).trans Gq6.out)
 clear hA hg m7 n7
 have m7:=jC Cq7.out 2
 have n7:=free_of Cq7.out 2
 simp only [gT,gZ,gS] at m7
 have c3:=jC Cq3.out 3
 simp only [gT,gZ,gS] at c3
 have bx3:=HB3.out
 have s3:=col_at6 Cq6.out (x3 % 6) (by omega) (by omega)
 go_upto_region 45 with (fail)
 generalize hA:World.setCell _ _ _=U2
 have hg:U1.grownBy U2 (some q7):=by rw [<- hA];exact grown_cell U1 ⟨q7,2,none⟩ _
 replace Cq7:=hid (show U2.heap[q7]? = some (.cells #[.int .i64 3,.string tb,.string (mcS (x3 % 6)),.slice none 0 0,.slice none 0 0,.slice none 0 0,.slice none 0 0,.slice none 0 0,.string ⟨#[]⟩,.string ⟨#[]⟩,.string ⟨#[]⟩,.int .i64 0,.slice none 0 0,.int .i64 0,.int .i64 0] 39 (0,0)) by
  rw [<- hA]
  exact (heap_setCell_same _ _ _ _ _ _ Cq7.out).trans rfl)
 replace GV:=hid (grown_tra GV.out hg)
 replace Cq3:=hid ((GV.out.block _ (jB Gq3.out) (fun e=>Nat.ne_of_lt L37.out.1 (jI e))).trans Gq3.out)
 replace Cq5:=hid ((GV.out.block _ (jB Gq5.out) (fun e=>Nat.ne_of_lt L37.out.2.1 (jI e))).trans Gq5.out)
 replace Cq6:=hid ((GV.out.block _ (jB Gq6.out) (fun e=>Nat.ne_of_lt L37.out.2.2.1 (jI e))).trans Gq6.out)
 clear hA hg m7 n7 c3 bx3 s3
 have m7:=jC Cq7.out 8
 have n7:=free_of Cq7.out 8
 simp only [gT,gZ,gS] at m7
 have c4:=jC Cq3.out 4
 simp only [gT,gZ,gS] at c4
 have bx4:=HB4.out
 have s4:=col_at6 Cq6.out (x4 % 6) (by omega) (by omega)
 have HFIN:=hid (show StQ V q7 3 (U2.setCell ⟨q7,8,none⟩ (.string (mcS (x4 % 6)))) from ⟨{ stmt0 with kind:=3,table:=tb,name:=mcS (x3 % 6),join:=mcS (x4 % 6) },none,0,none,0,none,0,none,0,none,0,grown_tra GV.out (grown_cell _ ⟨q7,8,none⟩ _),(heap_setCell_same _ _ _ _ _ _ Cq7.out).trans rfl,⟨Lst.nil,Lst.nil,Lst.nil,Lst.nil,Lst.nil⟩,okn (by decide) HTB.out (mcS_size _) (mcS_size _),rfl⟩)
 go_wp2_with fail
 exact HQ.out _ _ _ _ _ _ _ _ _ _ _ _ _ _ _ _ _ _ _ _ _ _ _ _ _ _ _ _ _ _ _ _ _ _ _ _ _ _ _ _ _ _ _ _ _ _ _ _ _ _ _ _ _ _ _ _ _ _ _ _ _ _ _ _ _ _ _ _ _ _ _ _ _ _ _ _ _ _ _ _ _ _ _ _ _ _ _ _ _ _ _ _ _ _ _ _ _ _ _ _ _ _ _ _ _ _ _ _ _ _ _ _ _ _ _ _ _ _ _ _ _ _ _ _ _ _ _ _ _ _ _ _ _ _ _ _ _ _ _ _ _ _ _ _ _ _ _ _ _ _ _ _ _ _ _ _ _ _ _ _ _ _ _ _ _ _ _ _ _ _ _ _ _ _ _ _ _ _ _ _ _ _ _ _ _ _ _ _ _ _ _ _ _ _ _ _ _ _ _ _ _ _ _ _ _ _ _ _ _ _ _ _ _ _ _ _ _ _ _ _ _ _ _ _ _ _ _ _ _ _ _ _ _ _ _ _ _ _ _ _ _ _ _ _ _ _ _ _ _ _ _ _ _ _ _ _ _ _ _ _ _ _ _ _ _ _ _ _ _ _ _ _ _ _ _ _ _ _ _ _ _ _ _ _ _ _ _ _ _ _ _ _ _ _ _ _ _ _ _ _ _ HFIN.out
end
end Go.Proofs.YtgemihkcihigpaaGreatDoor
