/- (*Catalog).create. -/
import Derived.Test.YtjcpccadmcglgaaGreatDoorZK21
set_option linter.unusedVariables false
set_option linter.unusedSimpArgs false
set_option maxRecDepth 100000
set_option maxHeartbeats 64000000
namespace Go.Proofs.YtjcpccadmcglgaaGreatDoor
open Go.Lib (hid)
section
open Go.RowKit
def NewCols (B:Nat) (S:List (ByteArray × Int)) (u:Value) (w:World):Prop:=∃ ua uc,u=.slice ua S.length uc/\ColOwn B S (.slice ua S.length uc) w
theorem NewCols.below {B:Nat} {S:List (ByteArray × Int)} {u:Value} {w w':World} (h:NewCols B S u w) (hb:Below w.heap.size w w'):NewCols B S u w':=by
 obtain ⟨ua,uc,h1,h2⟩:=h
 exact ⟨ua,uc,h1,owns_below h2 hb⟩
def NewTab (B:Nat) (z:Int) (tb:ByteArray) (S:List (ByteArray × Int)) (u:Value) (w:World):Prop:=∃ ua uc,u=.agg #[.int .i64 z,.string tb,.slice ua S.length uc,.slice none 0 0]/\ColOwn B S (.slice ua S.length uc) w
theorem NewTab.below {B:Nat} {z:Int} {tb:ByteArray} {S:List (ByteArray × Int)} {u:Value} {w w':World} (h:NewTab B z tb S u w) (hb:Below w.heap.size w w'):NewTab B z tb S u w':=by
 obtain ⟨ua,uc,h1,h2⟩:=h
 exact ⟨ua,uc,h1,owns_below h2 hb⟩
def NewBlk (B:Nat) (z:Int) (tb:ByteArray) (S:List (ByteArray × Int)) (u:Value) (w:World):Prop:=∃ ua uc g,u=.slice (some ⟨g,0,none⟩) 1 1/\w.heap[g]? = some (.cells #[.int .i64 z,.string tb,.slice ua S.length uc,.slice none 0 0] 90 (0,0))/\ColOwn B S (.slice ua S.length uc) w
theorem NewBlk.below {B:Nat} {z:Int} {tb:ByteArray} {S:List (ByteArray × Int)} {u:Value} {w w':World} (h:NewBlk B z tb S u w) (hb:Below w.heap.size w w'):NewBlk B z tb S u w':=by
 obtain ⟨ua,uc,g,h1,h2,h3⟩:=h
 exact ⟨ua,uc,g,h1,(hb.block _ (jB h2)).trans h2,owns_below h3 hb⟩
theorem createV_err {C:List Tab} {s:Stmt} (h:createE C s ≠ 0):(createE C s,if createE C s=0 then createT C s else C)=(createE C s,C):=by rw [if_neg h]
theorem cr_named {C:List Tab} {s:Stmt} (h:namedB s.table=false):createE C s=1:=by unfold createE;simp [h]
theorem cr_few {C:List Tab} {s:Stmt} (h:s.cols.length<1):createE C s=1:=by unfold createE;simp [h]
theorem cr_many {C:List Tab} {s:Stmt} (h:6<s.cols.length):createE C s=1:=by unfold createE;simp [h]
theorem cr_names {C:List Tab} {s:Stmt} (h:(s.cols.map (·.1)).any (fun n=>!namedB n)=true):createE C s=1:=by
 rw [List.any_map] at h
 unfold createE
 rw [if_pos]
 rw [Bool.or_eq_true]
 right
 exact h
structure CrFine (s:Stmt):Prop where
 nm:namedB s.table=true
 l1:1<=s.cols.length
 l2:s.cols.length<=6
 nms:(s.cols.map (·.1)).any (fun n=>!namedB n)=false
theorem CrFine.go {C:List Tab} {s:Stmt} (h:CrFine s):createE C s=if s.cols.any (fun c=>decide (c.2 ≠ 1) && decide (c.2 ≠ 2)) then 52
 else if twiceB (s.cols.map (·.1)) || decide (0<=findT C s.table) then 51
 else if C.length=8 then 2 else 0:=by
 have e:s.cols.any (fun c=>!namedB c.1)=false:=by have:=h.nms;rw [List.any_map] at this;exact this
 unfold createE
 rw [h.nm,e,if_neg]
 have:=h.l1
 have:=h.l2
 simp only [Bool.not_true,Bool.false_or,Bool.or_false,Bool.or_eq_true,decide_eq_true_eq]
 omega
theorem CrFine.small {s:Stmt} (h:CrFine s):∀ x ∈ s.cols.map (·.1),x.size<=maxLen:=by
 intro x hx
 have:=(List.any_eq_false.1 h.nms) x hx
 simp [namedB] at this
 unfold maxLen
 omega
theorem ccreate_any {p X:Nat->Prop} {B b:Nat} {C:List Tab} {s:Stmt} {sv:Value} {z:Int} {w:World} (hC:CatAt B X b C w) (hX:∀ k,X k->k<w.heap.size) (hS:TabsSmall C) (hs:StmtV p w sv s) (hcl:s.cols.length<=1000000) (hB:B<=w.heap.size) :
 Calls Tryz.prog 52 #[.pointer (some ⟨b,0,none⟩),sv,.int .i64 z] w fun e w'=>CatPost B X b w (createE C s,if createE C s=0 then createT C s else C) e w':=by
 obtain ⟨i0,hi,hz0,hz1,hz2⟩:=info_parts info_etab
 obtain ⟨a3,c3,a4,c4,a5,c5,a6,c6,a7,c7,a12,c12,rfl,hcol,_,_,_,_,_⟩:=hs
 obtain ⟨tb,htb⟩:∃ tb,tb=s.table:=⟨_,rfl⟩
 obtain ⟨S,hSS⟩:∃ S,S=s.cols:=⟨_,rfl⟩
 have HTB:=hid htb
 have HSS:=hid hSS
 rw [<- htb,<- hSS]
 rw [<- hSS] at hcol hcl
 clear htb hSS
 have HC:=hid hC
 obtain ⟨a,c,hcb,hsl⟩:=hC.sl hS
 have HCB:=hid hcb
 have HSL:=hid hsl
 have HERR:=hid (fun (k:Int) (hk:createE C s=k) (hk0:k ≠ 0) (w':World) (hb:Below w.heap.size w w')=>CatPost.err (r:=(createE C s,if createE C s=0 then createT C s else C)) hC hX (by rw [if_neg (by rw [hk];exact hk0),hk]) hB hb)
 have HP:=hid (fun (e:Ending) (w':World) (h:CatPost B X b w (createE C s,if createE C s=0 then createT C s else C) e w')=>h)
 obtain ⟨Pst,hPst⟩:∃ Pst,Pst=CatPost B X b w (createE C s,if createE C s=0 then createT C s else C):=⟨_,rfl⟩
 rw [<- hPst] at HERR HP ⊢
 have HPST:=hid hPst
 have hlC:C.length<=1000000:=hS.1
 have HX0:=hid hX
 clear hPst hC hS hcb hsl HP hX
 have HCOL0:=hid hcol
 clear hcol
 go_enter Tryz.func52,Tryz.ntmps52
 go_upto_region 1 with (fail)
 generalize hW:World.alloc _ _=W1
 have hA':allocs w [_]=W1:=hW
 have hq:W1.heap[w.heap.size]? = some (.cells #[.int .i64 s.kind,.string tb,.string s.name,.slice a3 S.length c3,.slice a4 s.names.length c4,.slice a5 s.row.length c5,.slice a6 s.sets.length c6,.slice a7 s.wher.length c7,.string s.join,.string s.left,.string s.right,.int .i64 s.agg,.slice a12 s.order.length c12,.int .i64 s.mode,.int .i64 s.n] 33 (0,0)):=allocs_get hA' 0 rfl
 have hb:=allocs_self hA'
 have B1:=hid hb
 have HQ:=hid hq
 have q3:=jC hq 3
 simp only [gT,gZ,gS] at q3
 have con:=cnames_any (HCOL0.out.below hb) hcl
 clear hA' hW hq hb
 go_wp2_with fail
 refine con.mono ?_
 rintro e w2 ⟨na,nc,rfl,b2,sn⟩
 have SN:=hid (show SlV strF (fun k=>W1.heap.size<=k) w2 (.slice na (S.map (·.1)).length nc) (S.map (·.1)) from by rw [List.length_map];exact sn)
 have B2:=hid (B1.out.trans (b2.mono B1.out.size))
 have hq2:=(b2.block _ (jB HQ.out)).trans HQ.out
 have HQ2:=hid hq2
 have k1:=jC hq2 1
 simp only [gT,gZ,gS] at k1
 clear con b2 sn q3 hq2
 go_upto_region 2 with (fail)
 go_wp2_with fail
 refine (cnamed_any tb _).mono ?_
 rintro e w2' ⟨rfl,rfl⟩
 cases h1:namedB tb
 · have HX:=hid (HERR.out 1 (cr_named (by rw [<- HTB.out];exact h1)) (by decide) _ B2.out)
   go_wp2_with fail
   exact HX.out
 by_cases h2:S.length<1
 · have HX:=hid (HERR.out 1 (cr_few (by rw [<- HSS.out];exact h2)) (by decide) _ B2.out)
   have d2:decide (S.length<1)=true:=decide_eq_true h2
   go_wp2_with fail
   exact HX.out
 by_cases h3:6<S.length
 · have HX:=hid (HERR.out 1 (cr_many (by rw [<- HSS.out];exact h3)) (by decide) _ B2.out)
   have d3:decide (6<S.length)=true:=decide_eq_true h3
   go_wp2_with fail
   exact HX.out
 have d2:decide (S.length<1)=false:=decide_eq_false h2
 have d3:decide (6<S.length)=false:=decide_eq_false h3
 have d2':decide ((S.length:Int)<1)=false:=decide_eq_false (by omega)
 have d3':decide (6<(S.length:Int))=false:=decide_eq_false (by omega)
 have con:=notnamed_any SN.out
 rw [List.length_map] at con
 go_wp2_with fail
 refine con.mono ?_
 rintro e w3 ⟨rfl,b3⟩
 have B3:=hid (B2.out.trans (b3.mono B2.out.size))
 have SN3:=hid (SN.out.below b3)
 have hq3:=(b3.block _ (jB HQ2.out)).trans HQ2.out
 have HQ3:=hid hq3
 have k3:=jC hq3 3
 simp only [gT,gZ,gS] at k3
 clear con b3 hq3 k1 HQ2 SN
 cases h4:(S.map (·.1)).any (fun s=>!namedB s)
 case true =>
  have HX:=hid (HERR.out 1 (cr_names (by rw [<- HSS.out];exact h4)) (by decide) _ B3.out)
  go_wp2_with fail
  exact HX.out
 have FINE:=hid (show CrFine s from ⟨by rw [<- HTB.out];exact h1,by rw [<- HSS.out];omega,by rw [<- HSS.out];omega,by rw [<- HSS.out];exact h4⟩)
 have con:=badkinds_any (HCOL0.out.below B3.out)
 go_wp2_with fail
 refine con.mono ?_
 rintro e w4 ⟨rfl,b4⟩
 have B4:=hid (B3.out.trans (b4.mono B3.out.size))
 have SN4:=hid (SN3.out.below b4)
 have hq4:=(b4.block _ (jB HQ3.out)).trans HQ3.out
 have HQ4:=hid hq4
 clear con b4 hq4 k3 HQ3 SN3
 cases h5:S.any (fun c=>decide (c.2 ≠ 1) && decide (c.2 ≠ 2))
 case true =>
  have HX:=hid (HERR.out 52 (by rw [FINE.out.go,<- HSS.out,h5];rfl) (by decide) _ B4.out)
  go_wp2_with fail
  exact HX.out
 have con:=twice_any SN4.out (by rw [HSS.out];exact FINE.out.small) (by rw [List.length_map];exact hcl)
 rw [List.length_map] at con
 go_wp2_with fail
 refine con.mono ?_
 rintro e w5 ⟨rfl,b5⟩
 have B5:=hid (B4.out.trans (b5.mono B4.out.size))
 have hq5:=(b5.block _ (jB HQ4.out)).trans HQ4.out
 have HQ5:=hid hq5
 have k1:=jC hq5 1
 simp only [gT,gZ,gS] at k1
 have HB5:=cy B5.out HCB
 clear con b5 hq5 HQ4 SN4
 cases h6:twiceB (S.map (·.1))
 case true =>
  have HX:=hid (HERR.out 51 (by rw [FINE.out.go,<- HSS.out,h5,h6];rfl) (by decide) _ B5.out)
  go_wp2_with fail
  exact HX.out
 obtain ⟨n,hn⟩:∃ n,findT C tb=n:=⟨_,rfl⟩
 have con:=cfind_any HB5.out (HSL.out.below B5.out) tb
 rw [hn] at con
 have HN:=hid hn
 clear hn
 go_wp2_with fail
 refine con.mono ?_
 rintro e w6 ⟨rfl,b6⟩
 have B6:=hid (B5.out.trans (b6.mono B5.out.size))
 have hq6:=(b6.block _ (jB HQ5.out)).trans HQ5.out
 have hb6:=(b6.block _ (jB HB5.out)).trans HB5.out
 have HQ6:=hid hq6
 have HB6:=hid hb6
 have kb:=jC hb6 0
 simp only [gT,gZ,gS] at kb
 clear con b6 hq6 hb6 HQ5 HB5 k1
 by_cases h7:0<=n
 · have HX:=hid (HERR.out 51 (by rw [FINE.out.go,<- HSS.out,h5,h6,<- HTB.out,HN.out];simp [h7]) (by decide) _ B6.out)
   have d7:decide (0<=n)=true:=decide_eq_true h7
   go_wp2_with fail
   exact HX.out
 have d7:decide (0<=n)=false:=decide_eq_false h7
 by_cases h8:C.length=8
 · have HX:=hid (HERR.out 2 (by rw [FINE.out.go,<- HSS.out,h5,h6,<- HTB.out,HN.out];simp [h7,h8]) (by decide) _ B6.out)
   have d8:decide (C.length=8)=true:=decide_eq_true h8
   go_wp2_with fail
   exact HX.out
 have HOK:=hid (show createE C s=0 by rw [FINE.out.go,<- HSS.out,h5,h6,<- HTB.out,HN.out];simp [h7,h8])
 have d8:decide (C.length=8)=false:=decide_eq_false h8
 have HC6:=hid (HC.out.below B6.out)
 have HCOL:=hid (HCOL0.out.below B6.out)
 obtain ⟨W,hW⟩:∃ W,W=w6:=⟨_,rfl⟩
 rw [<- hW] at HQ6 HB6 B6 kb HC6 HCOL ⊢
 have HQ0:=HQ6
 have HB0:=HB6
 clear hW
 go_upto_region 10 with (fail)
 clear kb HQ6 HB6 HERR d2 d3 d2' d3' d7 d8
 apply wp_region_growt 17 [52,53,54,55,56,57,58,59,60,61,62,63,64,65,66,67,68]
  [fun _ u _=>u=.pointer (some ⟨b,0,none⟩),
   fun _ u _=>u=.pointer (some ⟨b,0,none⟩),
   fun _ u _=>u=.pointer (some ⟨b,0,none⟩),
   fun _ u _=>u=.slice a C.length c,
   fun _ u _=>u=.pointer (some ⟨b,0,none⟩),
   fun _ u _=>u=.pointer (some ⟨b,0,none⟩),
   fun _ u _=>u=.pointer (some ⟨b,0,none⟩),
   fun _ u _=>u=.slice a C.length c,
   fun _ u _=>u=.int .i64 (C.length:Int),
   fun _ u _=>u=.int .i64 ((C.length:Int)+1),
   fun _ u _=>u=.pointer (some ⟨w.heap.size,1,none⟩),
   fun _ u _=>u=.string tb,
   fun _ u _=>u=.pointer (some ⟨w.heap.size,3,none⟩),
   fun _ u _=>u=.slice a3 S.length c3,
   fun _ u w'=>NewCols W.heap.size S u w',
   fun _ u w'=>NewTab W.heap.size ((C.length:Int)+1) tb S u w',
   fun _ u w'=>NewBlk W.heap.size ((C.length:Int)+1) tb S u w']
  (Below W.heap.size W)
 case hF =>
  intro v
  simp only [setAll,List.foldl_cons,List.foldl_nil,Act.put,List.setIfInBounds_toArray,List.set_cons_succ,List.set_cons_zero]
  exact rfl
 case hm=>kernel_rfl
 case hB=>kernel_rfl
 case hsz=>kernel_rfl
 case hC=>exact fun w1 w2 h b=>h.trans (b.mono h.size)
 case hw=>exact Below.drew b0R
 case hS =>
  intro D hD v u
  simp only [List.mem_cons,List.not_mem_nil,or_false] at hD
  rcases hD with rfl|rfl|rfl|rfl|rfl|rfl|rfl|rfl|rfl|rfl|rfl|rfl|rfl|rfl|rfl|rfl|rfl
  · exact fun w1 w2 h _=>h
  · exact fun w1 w2 h _=>h
  · exact fun w1 w2 h _=>h
  · exact fun w1 w2 h _=>h
  · exact fun w1 w2 h _=>h
  · exact fun w1 w2 h _=>h
  · exact fun w1 w2 h _=>h
  · exact fun w1 w2 h _=>h
  · exact fun w1 w2 h _=>h
  · exact fun w1 w2 h _=>h
  · exact fun w1 w2 h _=>h
  · exact fun w1 w2 h _=>h
  · exact fun w1 w2 h _=>h
  · exact fun w1 w2 h _=>h
  · exact fun w1 w2 h hb=>h.below hb
  · exact fun w1 w2 h hb=>h.below hb
  · exact fun w1 w2 h hb=>h.below hb
 case hob =>
  simp only [List.take_succ_cons,List.take_zero]
  apply growt_cons
  · intro v w1 h1 hd
    clear hd
    clear h1
    go_wp2_with fail
    first|exact Below.refl _ _|exact ⟨Below.refl _ _,rfl⟩|exact ⟨rfl,Below.refl _ _⟩
  apply growt_cons
  · intro v w1 h1 hd
    have g52:v 52=.pointer (some ⟨b,0,none⟩):=hd 0 _ _ _ rfl rfl rfl rfl
    clear hd
    rw [g52]
    clear g52 h1
    go_wp2_with fail
    first|exact Below.refl _ _|exact ⟨Below.refl _ _,rfl⟩|exact ⟨rfl,Below.refl _ _⟩
  apply growt_cons
  · intro v w1 h1 hd
    have g53:v 53=.pointer (some ⟨b,0,none⟩):=hd 1 _ _ _ rfl rfl rfl rfl
    clear hd
    rw [g53]
    clear g53 h1
    go_wp2_with fail
    first|exact Below.refl _ _|exact ⟨Below.refl _ _,rfl⟩|exact ⟨rfl,Below.refl _ _⟩
  apply growt_cons
  · intro v w1 h1 hd
    have g54:v 54=.pointer (some ⟨b,0,none⟩):=hd 2 _ _ _ rfl rfl rfl rfl
    clear hd
    rw [g54]
    have cb:=jC ((h1.block _ (jB HB0.out)).trans HB0.out) 0
    simp only [gT,gZ,gS] at cb
    clear g54 h1
    go_wp2_with fail
    first|exact Below.refl _ _|exact ⟨Below.refl _ _,rfl⟩|exact ⟨rfl,Below.refl _ _⟩
  apply growt_cons
  · intro v w1 h1 hd
    clear hd
    clear h1
    go_wp2_with fail
    first|exact Below.refl _ _|exact ⟨Below.refl _ _,rfl⟩|exact ⟨rfl,Below.refl _ _⟩
  apply growt_cons
  · intro v w1 h1 hd
    have g56:v 56=.pointer (some ⟨b,0,none⟩):=hd 4 _ _ _ rfl rfl rfl rfl
    clear hd
    rw [g56]
    clear g56 h1
    go_wp2_with fail
    first|exact Below.refl _ _|exact ⟨Below.refl _ _,rfl⟩|exact ⟨rfl,Below.refl _ _⟩
  apply growt_cons
  · intro v w1 h1 hd
    have g57:v 57=.pointer (some ⟨b,0,none⟩):=hd 5 _ _ _ rfl rfl rfl rfl
    clear hd
    rw [g57]
    clear g57 h1
    go_wp2_with fail
    first|exact Below.refl _ _|exact ⟨Below.refl _ _,rfl⟩|exact ⟨rfl,Below.refl _ _⟩
  apply growt_cons
  · intro v w1 h1 hd
    have g58:v 58=.pointer (some ⟨b,0,none⟩):=hd 6 _ _ _ rfl rfl rfl rfl
    clear hd
    rw [g58]
    have cb:=jC ((h1.block _ (jB HB0.out)).trans HB0.out) 0
    simp only [gT,gZ,gS] at cb
    clear g58 h1
    go_wp2_with fail
    first|exact Below.refl _ _|exact ⟨Below.refl _ _,rfl⟩|exact ⟨rfl,Below.refl _ _⟩
  apply growt_cons
  · intro v w1 h1 hd
    have g59:v 59=.slice a C.length c:=hd 7 _ _ _ rfl rfl rfl rfl
    clear hd
    rw [g59]
    clear g59 h1
    go_wp2_with fail
    first|exact Below.refl _ _|exact ⟨Below.refl _ _,rfl⟩|exact ⟨rfl,Below.refl _ _⟩
  apply growt_cons
  · intro v w1 h1 hd
    have g60:v 60=.int .i64 (C.length:Int):=hd 8 _ _ _ rfl rfl rfl rfl
    clear hd
    rw [g60]
    clear g60 h1
    go_wp2_with fail
    first|exact Below.refl _ _|exact ⟨Below.refl _ _,rfl⟩|exact ⟨rfl,Below.refl _ _⟩
  apply growt_cons
  · intro v w1 h1 hd
    clear hd
    clear h1
    go_wp2_with fail
    first|exact Below.refl _ _|exact ⟨Below.refl _ _,rfl⟩|exact ⟨rfl,Below.refl _ _⟩
  apply growt_cons
  · intro v w1 h1 hd
    have g62:v 62=.pointer (some ⟨w.heap.size,1,none⟩):=hd 10 _ _ _ rfl rfl rfl rfl
    clear hd
    rw [g62]
    have cb:=jC ((h1.block _ (jB HQ0.out)).trans HQ0.out) 1
    simp only [gT,gZ,gS] at cb
    clear g62 h1
    go_wp2_with fail
    first|exact Below.refl _ _|exact ⟨Below.refl _ _,rfl⟩|exact ⟨rfl,Below.refl _ _⟩
  apply growt_cons
  · intro v w1 h1 hd
    clear hd
    clear h1
    go_wp2_with fail
    first|exact Below.refl _ _|exact ⟨Below.refl _ _,rfl⟩|exact ⟨rfl,Below.refl _ _⟩
  apply growt_cons
  · intro v w1 h1 hd
    have g64:v 64=.pointer (some ⟨w.heap.size,3,none⟩):=hd 12 _ _ _ rfl rfl rfl rfl
    clear hd
    rw [g64]
    have cb:=jC ((h1.block _ (jB HQ0.out)).trans HQ0.out) 3
    simp only [gT,gZ,gS] at cb
    clear g64 h1
    go_wp2_with fail
    first|exact Below.refl _ _|exact ⟨Below.refl _ _,rfl⟩|exact ⟨rfl,Below.refl _ _⟩
  apply growt_cons
  · intro v w1 h1 hd
    have g65:v 65=.slice a3 S.length c3:=hd 13 _ _ _ rfl rfl rfl rfl
    clear hd
    rw [g65]
    have H1W:=hid h1
    obtain ⟨_,_,_,hrow⟩:=(HCOL.out.below h1).row
    have con:=clone_cols (w:=w1) (c:=c3) (n:=S.length) (row_nil hrow) (row_raw hrow) (flat_len (enc:=colEnc) (sz:=2) (fun _=>rfl) S) (col_cells S) (by omega)
    clear g65 h1 hrow
    go_wp2_with fail
    refine con.mono ?_
    rintro e w2 ⟨v',rfl,o2,b2⟩
    obtain ⟨ua,uc,hv,_⟩:=owns_shape' o2
    subst hv
    have T2:=hid (show NewCols W.heap.size S (.slice ua S.length uc) w2 from ⟨ua,uc,rfl,owns_base o2 H1W.out.size⟩)
    have B2:=hid b2
    clear con o2 b2
    go_wp2_with fail
    first|exact ⟨B2.out,T2.out⟩|exact ⟨T2.out,B2.out⟩|exact B2.out
  apply growt_cons
  · intro v w1 h1 hd
    have g61:v 61=.int .i64 ((C.length:Int)+1):=hd 9 _ _ _ rfl rfl rfl rfl
    have g63:v 63=.string tb:=hd 11 _ _ _ rfl rfl rfl rfl
    obtain ⟨ua,uc,g66,o66⟩:NewCols W.heap.size S (v 66) w1:=hd 14 _ _ _ rfl rfl rfl rfl
    clear hd
    rw [g61,g63,g66]
    have O:=hid o66
    clear g61 g63 g66 o66 h1
    go_wp2_with fail
    first|exact ⟨Below.refl _ _,ua,uc,rfl,O.out⟩|exact ⟨⟨ua,uc,rfl,O.out⟩,Below.refl _ _⟩
  apply growt_cons
  · intro v w1 h1 hd
    obtain ⟨ua,uc,g67,o67⟩:NewTab W.heap.size ((C.length:Int)+1) tb S (v 67) w1:=hd 15 _ _ _ rfl rfl rfl rfl
    clear hd
    rw [g67]
    have O:=hid o67
    clear g67 o67 h1
    go_wp2_with fail
    have hb3:Below w1.heap.size w1 (w1.alloc (.cells #[.int .i64 ((C.length:Int)+1),.string tb,.slice ua S.length uc,.slice none 0 0] 90)):=(b0R).alloc (jR _) _
    first|exact ⟨hb3,ua,uc,w1.heap.size,rfl,heap_alloc_new _ _,owns_below O.out hb3⟩|exact ⟨⟨ua,uc,w1.heap.size,rfl,heap_alloc_new _ _,owns_below O.out hb3⟩,hb3⟩
  exact growt_nil
 case hend =>
  intro v w7 h1 hd
  obtain ⟨ua,uc,g,g68,hg,o68⟩:NewBlk W.heap.size ((C.length:Int)+1) tb S (v 68) w7:=hd 16 _ _ _ rfl rfl rfl
  have g55:v 55=.slice a C.length c:=hd 3 _ _ _ rfl rfl rfl
  clear hd
  rw [g55,g68]
  have B7:=hid (B6.out.trans (h1.mono B6.out.size))
  have H17:=hid h1
  have HB7:=cy h1 HB0
  have HG:=hid hg
  have O7:=hid o68
  clear h1 hg o68 g55 g68
  generalize v 52=y1,v 53=y2,v 54=y3,v 56=y4,v 57=y5,v 58=y6,v 59=y7,v 60=y8,v 61=y9,v 62=y10,v 63=y11,v 64=y12,v 65=y13,v 66=y14,v 67=y15
  obtain ⟨hBb,tv,vs,hl,hvb,hvo,hvp,hva,hvf⟩:=HC6.out
  obtain rfl:tv=.slice a C.length c:=by
   rw [HB0.out] at hvb
   simp at hvb
   exact hvb.symm
  have hs7:w.heap.size<=w7.heap.size:=B7.out.size
  have VO:=hid (owns_below hvo H17.out)
  have VP:=hid hvp
  have VA:=hid hva
  have VF:=hid hvf
  have HL:=hid hl
  clear hvb hvo hvp hva hl hvf
  simp only [List.drop_succ_cons,List.drop_zero]
  refine wpList_append_own_at _ rfl _ _ 58 rfl B 90 i0 _ 4 72 Tryz.underlying58 hi hz0 hz1 hz2 rfl (by decide) (.slice a C.length c) C.length _ rfl VO.out ⟨g,0,none⟩ 1 1 [.int .i64 ((C.length:Int)+1),.string tb,.slice ua S.length uc,.slice none 0 0] rfl rfl (fun j u hj=>by rw [addr_add,jC HG.out];simpa using hj) (fun u hu=>by simp only [List.mem_cons,List.not_mem_nil,or_false] at hu;rcases hu with rfl|rfl|rfl|rfl <;> rfl) (by unfold maxLen;omega) (by omega) (by omega) ?_
  intro v' w8 o1 g1 hx1 at1
  clear hx1
  have AT1:=hid at1
  clear at1
  obtain ⟨va,vc,hv',_⟩:=owns_shape' o1
  subst hv'
  have N8:=hid (show _/\_ from ⟨o1,g1⟩)
  have hb8:=(g1.block _ (jB HB7.out) (row_not HB7.out VO.out (by decide))).trans HB7.out
  have k8:=jC hb8 0
  have f8:=free_of hb8 0
  simp only [gT,gZ,gS] at k8
  clear o1 g1 hb8
  go_wp2_with fail
  rw [HPST.out,HOK.out,if_pos rfl]
  have e:createT C s=C ++ [⟨C.length+1,tb,S,[]⟩]:=by unfold createT;rw [<- HTB.out,<- HSS.out]
  rw [e]
  have hsW:=B6.out.size
  refine ⟨rfl,?_,fun k hk=>?_,?_⟩
  · exact ((B7.out.mono hB).grown N8.out.2 (by omega) (fun k hk=>(VO.out.lt k hk).1)).setCell (p:=⟨b,0,none⟩) hBb _
  · have hkw:=HX0.out k hk
    have e1:k ≠ b:=fun e=>VF.out.blk (e ▸ hk)
    rw [heap_setCell_other _ _ _ _ (by exact e1),N8.out.2.block k (by omega) (fun e=>VF.out.tab k e.symm hk),B7.out.block k hkw]
  · refine catAt_push (T:=⟨C.length+1,tb,S,[]⟩) hBb HL.out HB7.out VO.out (VP.out.below H17.out) VA.out VF.out (fun k hk hx=>?_) (fun k hk hx=>?_) (owns_base O7.out (by omega)) (fun g hg t ht=>?_) rfl N8.out.1 N8.out.2
    · rcases AT1.out with e|e
      · exact VF.out.tab k (e ▸ hk) hx
      · rw [e] at hk
        have:=HX0.out k hx
        simp only [Option.some.injEq] at hk
        omega
    · have h1:=(World.ownsRow.lt O7.out k hk).1
      have:=HX0.out k hx
      omega
    intro e
    have h1:=(World.ownsRow.lt O7.out g hg).1
    have h2:=(World.ownsRow.lt (VP.out t (by have:=HL.out;omega) ht).1 g e).2
    omega
end
end Go.Proofs.YtjcpccadmcglgaaGreatDoor
