/- token: the token that begins at byte i. -/
import Derived.Test.YtjcpccadmcglgaaGreatDoorZK31
import Derived.Test.YtjcpccadmcglgaaGreatDoorZK12
import Derived.Test.YtjcpccadmcglgaaGreatDoorZK27
import Derived.Lib.SmallJoins
import Derived.Test.YtjcpccadmcglgaaGreatDoorZK10
set_option linter.unusedVariables false
set_option linter.unusedSimpArgs false
set_option maxRecDepth 100000
set_option maxHeartbeats 64000000
namespace Go.Proofs.YtjcpccadmcglgaaGreatDoor
open Go.Lib (hid)
section
open Go.RowKit
def TokenPost (s:ByteArray) (i:Nat) (w:World) (e:Ending) (w':World):Prop :=
 Below w.heap.size w w'/\match tokM (s.data.toList.drop i) i with
 | .ok q=>e=.returned (.tuple #[q.1.enc,.int .i64 ((i+q.2:Nat):Int)])
 | .error er=>e=trouble er
theorem results_cell_tmp {P:Program} {fn:Func} {p q:Tmp} {ty:TypeId} (h:fn.results=#[.cell p ty,.tmp q]) (tmps:Array Value) (w:World) (g:Nat) (t:TypeId) (cs:Array Value) (fr:Nat × Nat) (d:TypeDesc)
 (hp:tmps.getD p undef=.pointer (some ⟨g,0,none⟩)) (hg:w.heap[g]? = some (.cells cs t fr))
 (hu:P.underlying ty=some d) (hd:(match d with | .struct _ | .array _ _=>true|_=>false)=true) (hi:(P.info? ty).map (·.size)=some cs.size) :
 (results fn tmps).run P w=.ok (.tuple #[.agg cs,tmps.getD q undef]) w:=by
 have hp':tmps[p]?.getD undef=.pointer (some ⟨g,0,none⟩):=by simpa using hp
 simp [results,h,hp',asAddr,Sem.run_bind,Result.andThen,run_loadVar_row w g t ty cs fr d hg hu hd hi]
theorem tok_set {w w1:World} {x0 x1 x2 x3:Value} (b1:Below w.heap.size w w1) (q:w1.heap[w.heap.size]? = some (.cells #[x0,x1,x2,x3] 56 (0,0))) (a b c d:Value) :
 ((((w1.setCell ⟨w.heap.size,0,none⟩ a).setCell ⟨w.heap.size,1,none⟩ b).setCell ⟨w.heap.size,2,none⟩ c).setCell ⟨w.heap.size,3,none⟩ d).heap[w.heap.size]? = some (.cells #[a,b,c,d] 56 (0,0)) /\
 Below w.heap.size w ((((w1.setCell ⟨w.heap.size,0,none⟩ a).setCell ⟨w.heap.size,1,none⟩ b).setCell ⟨w.heap.size,2,none⟩ c).setCell ⟨w.heap.size,3,none⟩ d) :=
 ⟨heap_setCell_same _ _ 3 _ _ d (heap_setCell_same _ _ 2 _ _ c (heap_setCell_same _ _ 1 _ _ b (heap_setCell_same _ _ 0 _ _ a q))),(((b1.setCell (p:=⟨w.heap.size,0,none⟩) (jR _) a).setCell (p:=⟨w.heap.size,1,none⟩) (jR _) b).setCell (p:=⟨w.heap.size,2,none⟩) (jR _) c).setCell (p:=⟨w.heap.size,3,none⟩) (jR _) d⟩
theorem ext_take (s:ByteArray) (i j:Nat):s.extract i j=⟨⟨(s.data.toList.drop i).take (j - i)⟩⟩:=by
 apply ByteArray.ext
 apply Array.toList_inj.1
 rw [ByteArray.data_extract,Array.toList_extract,List.extract_eq_take_drop]
theorem tok_word {L r:List UInt8} {c:UInt8} {i:Nat} (hL:L=c :: r) (hl:letB c=true):tokM L i=.ok (⟨1,i,⟨⟨L.take (spanN inB L)⟩⟩,0⟩,spanN inB L):=by
 subst hL
 unfold tokM
 simp only [hl,if_true]
theorem tok_num {L r:List UInt8} {c:UInt8} {i:Nat} {v:Int} (hL:L=c :: r) (hl:letB c=false) (ht:(digB c || (c == 45 && headDig r))=true) (hn:numM (L.take (1+spanN digB r))=some v):tokM L i=.ok (⟨2,i,noStr,v⟩,1+spanN digB r):=by
 subst hL
 unfold tokM
 simp only [hl,ht,hn,if_true,Bool.false_eq_true,if_false]
theorem tok_big {L r:List UInt8} {c:UInt8} {i:Nat} (hL:L=c :: r) (hl:letB c=false) (ht:(digB c || (c == 45 && headDig r))=true) (hn:numM (L.take (1+spanN digB r))=none):tokM L i=.error (i,61):=by
 subst hL
 unfold tokM
 simp only [hl,ht,hn,if_true,Bool.false_eq_true,if_false]
theorem tok_quote {L r:List UInt8} {c:UInt8} {i:Nat} {q:List UInt8 × Nat} (hL:L=c :: r) (hl:letB c=false) (ht:(digB c || (c == 45 && headDig r))=false) (hc:c=39) (hq:quoteM r=some q) (h40:q.1.length<=40):tokM L i=.ok (⟨3,i,⟨⟨q.1⟩⟩,0⟩,q.2+1):=by
 subst hL
 have h39:(c == 39)=true:=by rw [hc];rfl
 unfold tokM
 simp only [hl,ht,hq,h39,h40,if_true,Bool.false_eq_true,if_false]
theorem tok_long {L r:List UInt8} {c:UInt8} {i:Nat} {q:List UInt8 × Nat} (hL:L=c :: r) (hl:letB c=false) (ht:(digB c || (c == 45 && headDig r))=false) (hc:c=39) (hq:quoteM r=some q) (h40:¬ q.1.length<=40):tokM L i=.error (i,62):=by
 subst hL
 have h39:(c == 39)=true:=by rw [hc];rfl
 unfold tokM
 simp only [hl,ht,hq,h39,h40,if_true,Bool.false_eq_true,if_false]
theorem tok_open {L r:List UInt8} {c:UInt8} {i:Nat} (hL:L=c :: r) (hl:letB c=false) (ht:(digB c || (c == 45 && headDig r))=false) (hc:c=39) (hq:quoteM r=none):tokM L i=.error (i,62):=by
 subst hL
 have h39:(c == 39)=true:=by rw [hc];rfl
 unfold tokM
 simp only [hl,ht,hq,h39,if_true,Bool.false_eq_true,if_false]
def sgL:List ByteArray:=signsL.map fun x=>⟨⟨x⟩⟩
theorem sg_at (k:Nat) (h1:k<sgL.length) (h2:k<signsL.length):sgL[k]'h1=⟨⟨signsL[k]'h2⟩⟩:=List.getElem_map _
theorem tok_sign {L r:List UInt8} {c:UInt8} {i:Nat} {x:List UInt8} (hL:L=c :: r) (hl:letB c=false) (ht:(digB c || (c == 45 && headDig r))=false) (hc:¬ c=39) (hx:signsL.find? (fun x=>x.isPrefixOf L)=some x):tokM L i=.ok (⟨4,i,⟨⟨x⟩⟩,0⟩,x.length):=by
 subst hL
 have h39:(c == 39)=false:=by simpa using hc
 unfold tokM
 simp only [hl,ht,hx,h39,Bool.false_eq_true,if_false]
theorem tok_none {L r:List UInt8} {c:UInt8} {i:Nat} (hL:L=c :: r) (hl:letB c=false) (ht:(digB c || (c == 45 && headDig r))=false) (hc:¬ c=39) (hx:signsL.find? (fun x=>x.isPrefixOf L)=none):tokM L i=.error (i,60):=by
 subst hL
 have h39:(c == 39)=false:=by simpa using hc
 unfold tokM
 simp only [hl,ht,hx,h39,Bool.false_eq_true,if_false]
theorem token_any (s:ByteArray) (i:Nat) (hi:i<s.size) (hs:s.size<=4294967000) {w:World} (he:EnvL w) :
 Calls Tryz.prog 29 #[.string s,.int .i64 i] w fun e w'=>TokenPost s i w e w':=by
 obtain ⟨Pst,hPst⟩:∃ Pst,Pst=TokenPost s i w:=⟨_,rfl⟩
 have HPST:=hid hPst
 rw [<- hPst]
 obtain ⟨w1,hw1⟩:∃ W,w.alloc (.cells #[.int .i64 0,.int .i64 0,.string ⟨#[]⟩,.int .i64 0] 56)=W:=⟨_,rfl⟩
 have b1:Below w.heap.size w w1:=by rw [<- hw1];exact (b0R).alloc (jR _) _
 have hq1:w1.heap[w.heap.size]? = some (.cells #[.int .i64 0,.int .i64 0,.string ⟨#[]⟩,.int .i64 0] 56 (0,0)):=by rw [<- hw1];exact heap_alloc_new _ _
 have B1:=hid b1
 have Q1:=hid hq1
 have HL:=hid (drop_step s i hi)
 have HE:=hid (he.below b1)
 have con:=letter_any s[i] w1
 clear hPst b1 hq1 he
 go_enter Tryz.func29,Tryz.ntmps29
 cases hl:letB s[i] with
 | true =>
  rw [hl] at con
  have HR:=hid (tok_word (i:=i) HL.out hl)
  have con2:=while_any inB (enters_of Tryz.func62 (by kernel_rfl) rfl) inner_any s i (Nat.le_of_lt hi) hs w1
  obtain ⟨m,hm⟩:∃ m,m=spanN inB (s.data.toList.drop i):=⟨_,rfl⟩
  have hml:i+m<=s.size:=by
   have h1:m<=(s.data.toList.drop i).length:=by rw [hm];unfold spanN;exact (List.takeWhile_sublist _).length_le
   rw [List.length_drop] at h1
   have h2:s.data.toList.length=s.size:=by simp
   omega
  rw [<- hm] at con2 HR
  clear hl hm
  go_wp2_with fail
  refine con.mono ?_
  rintro e w2 ⟨rfl,rfl⟩
  clear con
  go_wp2_with fail
  refine con2.mono ?_
  rintro e w2 ⟨rfl,rfl⟩
  clear con2 hw1
  have k0:=jC Q1.out 0
  have k1:=jC Q1.out 1
  have k2:=jC Q1.out 2
  have k3:=jC Q1.out 3
  have f0:=free_of Q1.out 0
  have f1:=free_of Q1.out 1
  have f2:=free_of Q1.out 2
  have f3:=free_of Q1.out 3
  simp only [gT,gZ,gS] at k0 k1 k2 k3
  have hi2:(i:Int)<=((i+m:Nat):Int):=by omega
  go_wp2_with fail
  have ts:=tok_set B1.out Q1.out (.int .i64 1) (.int .i64 i) (.string (s.extract i (i+m))) (.int .i64 0)
  refine bodyPost_ret (results_cell_tmp rfl _ _ w.heap.size 56 _ (0,0) _ rfl ts.1 Tryz.underlying56 rfl (by kernel_rfl)) rfl ?_
  rw [HPST.out]
  refine ⟨ts.2,?_⟩
  rw [HR.out]
  show Ending.returned (.tuple #[.agg #[.int .i64 1,.int .i64 i,.string (s.extract i (i+m)),.int .i64 0],.int .i64 ((i:Int)+m)])=.returned (.tuple #[.agg #[.int .i64 1,.int .i64 i,.string ⟨⟨(s.data.toList.drop i).take m⟩⟩,.int .i64 0],.int .i64 ((i+m:Nat):Int)])
  rw [ext_take,Nat.add_sub_cancel_left,Int.natCast_add]
 | false =>
  rw [hl] at con
  go_wp2_with fail
  refine con.mono ?_
  rintro e w2 ⟨rfl,rfl⟩
  clear con
  obtain ⟨T,hT⟩:∃ T,T=(digB s[i] || (s[i] == 45 && headDig (s.data.toList.drop (i+1)))):=⟨_,rfl⟩
  have HTT:=hid hT
  have HLF:=hid hl
  clear hT hl
  go_upto_region 5 with (fail)
  go_cut [31] from 32 to 51 (fun s31 wx=>s31=.bool T/\wx=w1)
  case first =>
   have con3:=digit_any s[i] w1
   cases hd:digB s[i] with
   | true =>
    rw [hd] at con3
    have HX:=hid (show true=T by rw [HTT.out,hd];rfl)
    clear hd
    go_wp2_with fail
    refine con3.mono ?_
    rintro e w2 ⟨rfl,rfl⟩
    clear con3
    go_wp2_with fail
    go_meet
    exact ⟨by rw [<- HX.out],rfl⟩
   | false =>
    rw [hd] at con3
    have HD:=hid hd
    clear hd
    go_wp2_with fail
    refine con3.mono ?_
    rintro e w2 ⟨rfl,rfl⟩
    clear con3
    by_cases h45:s[i]=45
    case neg =>
     have hci:((s[i].toNat:Int) == 45)=false:=by rw [beq_eq_false_iff_ne];exact fun e=>h45 (UInt8.toNat_inj.1 (by show s[i].toNat=45;omega))
     have HX:=hid (show false=T by rw [HTT.out,HD.out];simp [h45])
     clear h45
     go_wp2_with fail
     go_meet
     exact ⟨by rw [<- HX.out],rfl⟩
    have hci:((s[i].toNat:Int) == 45)=true:=by rw [h45];rfl
    by_cases hi1:i+1<s.size
    case neg =>
     have HX:=hid (show false=T by rw [HTT.out,HD.out,List.drop_eq_nil_of_le (by simp;omega)];simp [headDig])
     have hi2:¬ ((i:Int)+1<(s.size:Int)):=by omega
     clear h45 hi1
     go_wp2_with fail
     go_meet
     exact ⟨by rw [<- HX.out],rfl⟩
    have hi2:(i:Int)+1<(s.size:Int):=by omega
    have con4:=digit_any s[i+1] w1
    have HX:=hid (show digB s[i+1]=T by rw [HTT.out,HD.out,drop_step s (i+1) hi1,h45];rfl)
    rw [HX.out] at con4
    clear h45
    go_wp2_with fail
    refine con4.mono ?_
    rintro e w2 ⟨rfl,rfl⟩
    clear con4
    go_wp2_with fail
    go_meet
    exact ⟨rfl,rfl⟩
  case rest =>
   obtain ⟨rfl,rfl⟩:=hcut
   clear hw1
   cases T with
   | true =>
    obtain ⟨m,hm⟩:∃ m,m=spanN digB (s.data.toList.drop (i+1)):=⟨_,rfl⟩
    have hml:i+1+m<=s.size:=by
     have h1:m<=(s.data.toList.drop (i+1)).length:=by rw [hm];unfold spanN;exact (List.takeWhile_sublist _).length_le
     rw [List.length_drop] at h1
     have h2:s.data.toList.length=s.size:=by simp
     omega
    have hnum:=num_as (c:=s[i]) (r:=s.data.toList.drop (i+1)) HTT.out.symm
    rw [<- HL.out,<- hm] at hnum
    have hxl:(s.extract i (i+1+m)).data.toList=(s.data.toList.drop i).take (1+m):=by rw [ext_take,show i+1+m - i=1+m by omega]
    unfold NumAs at hnum
    rw [<- hxl] at hnum
    have hxs:(s.extract i (i+1+m)).size<=4294967000:=by rw [ByteArray.size_extract];omega
    have con6:Calls Tryz.prog 61 #[.string s,.int .i64 ((i:Int)+1),.func (.func 63) #[] #[]] wc fun e w'=>e=.returned (.int .i64 ((i+1+m:Nat):Int))/\wc=w':=by
     rw [hm]
     exact while_any digB (enters_of Tryz.func63 (by kernel_rfl) rfl) digit_any s (i+1) (by omega) hs wc
    have hi2:(i:Int)<=(i:Int)+1+m:=by omega
    cases hn:numM ((s.extract i (i+1+m)).data.toList) with
    | some v =>
     rw [hn] at hnum
     have HR:=hid (tok_num (i:=i) HL.out HLF.out HTT.out.symm (by rw [<- hm,<- hxl];exact hn))
     rw [<- hm] at HR
     have con7:=Tryz.strconv_ParseInt_10_at64_ok (s.extract i (i+1+m)) (by omega) v hnum wc
     clear hnum hn hm hxl
     go_wp2_with fail
     refine con6.mono ?_
     rintro e w2 ⟨rfl,rfl⟩
     clear con6
     go_wp2_with fail
     refine con7.mono ?_
     rintro e w2 ⟨rfl,hw⟩
     have b2:Below wc.heap.size wc w2:=by
      rcases hw with rfl|⟨t,rfl⟩
      · exact Below.refl _ _
      · exact Go.Joins.below_bytesWorld _ _ _ _ (jR _)
     have B2:=hid (B1.out.trans (b2.mono B1.out.size))
     have Q2:=cy b2 Q1
     clear con7 hw b2
     have k0:=jC Q2.out 0
     have k1:=jC Q2.out 1
     have k2:=jC Q2.out 2
     have k3:=jC Q2.out 3
     have f0:=free_of Q2.out 0
     have f1:=free_of Q2.out 1
     have f2:=free_of Q2.out 2
     have f3:=free_of Q2.out 3
     simp only [gT,gZ,gS] at k0 k1 k2 k3
     have hnn:∀ w,(binOp BinOp.neq 82 .nilIface .nilIface).run Tryz.prog w=.ok (.bool false) w:=fun _=>by kernel_rfl
     go_wp2_with fail
     have ts:=tok_set B2.out Q2.out (.int .i64 2) (.int .i64 i) (.string ⟨#[]⟩) (.int .i64 v)
     refine bodyPost_ret (results_cell_tmp rfl _ _ w.heap.size 56 _ (0,0) _ rfl ts.1 Tryz.underlying56 rfl (by kernel_rfl)) rfl ?_
     rw [HPST.out]
     refine ⟨ts.2,?_⟩
     rw [HR.out]
     show Ending.returned (.tuple #[.agg #[.int .i64 2,.int .i64 i,.string ⟨#[]⟩,.int .i64 v],.int .i64 ((i:Int)+1+m)])=.returned (.tuple #[.agg #[.int .i64 2,.int .i64 i,.string ⟨#[]⟩,.int .i64 v],.int .i64 ((i+(1+m):Nat):Int)])
     rw [show ((i+(1+m):Nat):Int)=(i:Int)+1+m by omega]
    | none =>
     rw [hn] at hnum
     have HR:=hid (tok_big (i:=i) HL.out HLF.out HTT.out.symm (by rw [<- hm,<- hxl];exact hn))
     obtain ⟨ev,hv,hev⟩:=HE.out.rng
     have con7:=Tryz.strconv_ParseInt_10_at64_range (s.extract i (i+1+m)) (by omega) hnum ev wc hv hev
     clear hnum hn hm hxl
     go_wp2_with fail
     refine con6.mono ?_
     rintro e w2 ⟨rfl,rfl⟩
     clear con6
     go_wp2_with fail
     refine con7.mono ?_
     rintro e w2 ⟨N,rfl,_,_,b2⟩
     have B2:=hid (B1.out.trans (b2.mono B1.out.size))
     clear con7 b2
     have hnn:∀ w,(binOp BinOp.neq 82 (.iface 173 (.pointer (some ⟨N,0,none⟩))) .nilIface).run Tryz.prog w=.ok (.bool true) w:=fun _=>by kernel_rfl
     have con:=fail_any i 61 w2
     go_wp2_with fail
     refine con.mono ?_
     rintro e w7 ⟨rfl,rfl⟩
     go_wp2_with fail
     refine ⟨rfl,?_⟩
     rw [HPST.out]
     refine ⟨B2.out,?_⟩
     rw [HR.out]
   | false =>
    by_cases h39:s[i]=39
    case pos =>
     have h39i:((s[i].toNat:Int) == 39)=true:=by rw [h39];rfl
     cases hq:quoteM (s.data.toList.drop (i+1)) with
     | none =>
      have HR:=hid (tok_open (i:=i) HL.out HLF.out HTT.out.symm h39 hq)
      clear h39
      have con:Calls Tryz.prog 65 #[.string s,.int .i64 i] wc fun e w'=>e=trouble (i,62)/\Below wc.heap.size wc w':=(quoted_any s i hi hs wc).mono fun e w' h=>by
       obtain ⟨h1,h2⟩:=h
       rw [hq] at h2
       exact ⟨h2,h1⟩
      clear hq
      go_wp2_with fail
      refine con.mono ?_
      rintro e w2 ⟨rfl,b2⟩
      have B2:=hid (B1.out.trans (b2.mono B1.out.size))
      clear con b2
      go_wp2_with fail
      refine ⟨rfl,?_⟩
      rw [HPST.out]
      refine ⟨B2.out,?_⟩
      rw [HR.out]
     | some q =>
      by_cases h40:q.1.length<=40
      case neg =>
       have HR:=hid (tok_long (i:=i) HL.out HLF.out HTT.out.symm h39 hq h40)
       clear h39
       have con:Calls Tryz.prog 65 #[.string s,.int .i64 i] wc fun e w'=>e=trouble (i,62)/\Below wc.heap.size wc w':=(quoted_any s i hi hs wc).mono fun e w' h=>by
        obtain ⟨h1,h2⟩:=h
        rw [hq] at h2
        exact ⟨by simpa [h40] using h2,h1⟩
       clear hq
       go_wp2_with fail
       refine con.mono ?_
       rintro e w2 ⟨rfl,b2⟩
       have B2:=hid (B1.out.trans (b2.mono B1.out.size))
       clear con b2
       go_wp2_with fail
       refine ⟨rfl,?_⟩
       rw [HPST.out]
       refine ⟨B2.out,?_⟩
       rw [HR.out]
      obtain ⟨x,hx⟩:∃ x:ByteArray,x=⟨⟨q.1⟩⟩:=⟨_,rfl⟩
      have HR:=hid (tok_quote (i:=i) HL.out HLF.out HTT.out.symm h39 hq h40)
      have con:Calls Tryz.prog 65 #[.string s,.int .i64 i] wc fun e w'=>e=.returned (.tuple #[.string x,.int .i64 ((i+1+q.2:Nat):Int)])/\Below wc.heap.size wc w':=(quoted_any s i hi hs wc).mono fun e w' h=>by
       obtain ⟨h1,h2⟩:=h
       rw [hq] at h2
       rw [hx]
       exact ⟨by simpa [h40] using h2,h1⟩
      rw [<- hx] at HR
      obtain ⟨qn,hqn⟩:∃ n,n=q.2:=⟨_,rfl⟩
      rw [<- hqn] at con HR
      clear h39 hq hx h40 hqn
      go_wp2_with fail
      refine con.mono ?_
      rintro e w2 ⟨rfl,b2⟩
      have B2:=hid (B1.out.trans (b2.mono B1.out.size))
      have Q2:=cy b2 Q1
      clear con b2
      have k0:=jC Q2.out 0
      have k1:=jC Q2.out 1
      have k2:=jC Q2.out 2
      have k3:=jC Q2.out 3
      have f0:=free_of Q2.out 0
      have f1:=free_of Q2.out 1
      have f2:=free_of Q2.out 2
      have f3:=free_of Q2.out 3
      simp only [gT,gZ,gS] at k0 k1 k2 k3
      go_wp2_with fail
      have ts:=tok_set B2.out Q2.out (.int .i64 3) (.int .i64 i) (.string x) (.int .i64 0)
      refine bodyPost_ret (results_cell_tmp rfl _ _ w.heap.size 56 _ (0,0) _ rfl ts.1 Tryz.underlying56 rfl (by kernel_rfl)) rfl ?_
      rw [HPST.out]
      refine ⟨ts.2,?_⟩
      rw [HR.out]
      show Ending.returned (.tuple #[.agg #[.int .i64 3,.int .i64 i,.string x,.int .i64 0],.int .i64 ((i:Int)+1+qn)])=.returned (.tuple #[.agg #[.int .i64 3,.int .i64 i,.string x,.int .i64 0],.int .i64 ((i+(qn+1):Nat):Int)])
      rw [show ((i+(qn+1):Nat):Int)=(i:Int)+1+qn by omega]
    have h39i:((s[i].toNat:Int) == 39)=false:=by rw [beq_eq_false_iff_ne];exact fun e=>h39 (UInt8.toNat_inj.1 (by show s[i].toNat=39;omega))
    have con:Calls Tryz.prog 66 #[.string ⟨#[60,62,32,60,61,32,62,61,32,40,32,41,32,44,32,42,32,43,32,61,32,60,32,62]⟩] wc fun e w'=>e=.returned (.slice (some ⟨wc.heap.size,0,none⟩) 11 11)/\w'=wc.alloc (.cells (sgL.map Value.string).toArray 9) :=
     fields_any (L:=sgL) (by decide +kernel) (by decide) (by decide) HE.out
    have H39:=hid h39
    clear h39
    go_wp2_with fail
    refine con.mono ?_
    rintro e w2 ⟨rfl,hw2⟩
    have b2:Below wc.heap.size wc w2:=by rw [hw2];exact (b0R).alloc (jR _) _
    have hrow:=(words_at wc sgL (by decide)).row
    rw [<- hw2] at hrow
    have RW:=hid (show ∀ k (hk:k<11),w2.cell? ⟨wc.heap.size,k,none⟩=some (.string (sgL[k]'hk)) from fun k hk=>by
     obtain ⟨_,_,_,h4⟩:=hrow
     have:=h4.flat k hk 0 (by decide)
     simpa only [strEnc,List.getElem?_cons_zero,Nat.mul_one,Nat.add_zero,Nat.zero_add] using this)
    have B2:=hid (B1.out.trans (b2.mono B1.out.size))
    have Q2:=cy b2 Q1
    clear con b2 hw2 hrow
    go_wp2_with fail
    go_loopw [87] (fun ii wr=>∃ k:Nat,k<=11/\ii=.int .i64 k/\wr=w2/\Hid (signsL.find? (fun x=>x.isPrefixOf (s.data.toList.drop i))=(signsL.drop k).find? (fun x=>x.isPrefixOf (s.data.toList.drop i)))) (fun ii _=>11 - (intOf ii).toNat)
    case atStart=>exact ⟨0,by omega,rfl,rfl,rfl⟩
    case round =>
     obtain ⟨k,hk,rfl,rfl,HF⟩:=hrel
     by_cases hlt:k<11
     · have c0:=RW.out k hlt
       have con3:=Tryz.strings_HasPrefix (s.extract i s.size) (sgL[k]'hlt) wr
       have hdk:signsL.drop k=signsL[k]'hlt :: signsL.drop (k+1):=List.drop_eq_getElem_cons hlt
       have hpx:Lib.hasPrefix (s.extract i s.size).data.toList (sgL[k]'hlt).data.toList=(signsL[k]'hlt).isPrefixOf (s.data.toList.drop i):=by
        unfold Lib.hasPrefix
        rw [ext_take]
        have e1:(sgL[k]'hlt).data.toList=signsL[k]'hlt:=congrArg (fun y:ByteArray=>y.data.toList) (sg_at k hlt hlt)
        rw [e1]
        show (signsL[k]'hlt).isPrefixOf ((s.data.toList.drop i).take (s.size - i))=_
        rw [List.take_of_length_le (by rw [List.length_drop];simp)]
       rw [hpx] at con3
       have hxe:sgL[k]'hlt=⟨⟨signsL[k]'hlt⟩⟩:=sg_at k hlt hlt
       have hxsz:(sgL[k]'hlt).size<=2:=by
        have:∀ x ∈ sgL,x.size<=2:=by decide
        exact this _ (List.getElem_mem _)
       have hx2:(sgL[k]'hlt).size=(signsL[k]'hlt).length:=by rw [hxe];rfl
       obtain ⟨x,hx⟩:∃ x,x=sgL[k]'hlt:=⟨_,rfl⟩
       rw [<- hx] at c0 con3 hxe hxsz hx2
       cases hp:(signsL[k]'hlt).isPrefixOf (s.data.toList.drop i) with
       | true =>
        have HR:=hid (show tokM (s.data.toList.drop i) i=.ok (⟨4,i,x,0⟩,x.size) by
         have:=tok_sign (i:=i) HL.out HLF.out HTT.out.symm H39.out (x:=signsL[k]'hlt) (by rw [HF.out,hdk,List.find?_cons,hp])
         rw [this,hxe,<- hx2,hxe])
        rw [hp] at con3
        clear hp hdk hpx hx hxe hx2
        have k0:=jC Q2.out 0
        have k1:=jC Q2.out 1
        have k2:=jC Q2.out 2
        have k3:=jC Q2.out 3
        have f0:=free_of Q2.out 0
        have f1:=free_of Q2.out 1
        have f2:=free_of Q2.out 2
        have f3:=free_of Q2.out 3
        simp only [gT,gZ,gS] at k0 k1 k2 k3
        go_wp2_with fail
        refine con3.mono ?_
        rintro e w6 ⟨rfl,rfl⟩
        clear con3
        go_wp2_with fail
        have ts:=tok_set B2.out Q2.out (.int .i64 4) (.int .i64 i) (.string x) (.int .i64 0)
        refine bodyPost_ret (results_cell_tmp rfl _ _ w.heap.size 56 _ (0,0) _ rfl ts.1 Tryz.underlying56 rfl (by kernel_rfl)) rfl ?_
        rw [HPST.out]
        refine ⟨ts.2,?_⟩
        rw [HR.out]
        rfl
       | false =>
        have HN:=hid (show signsL.find? (fun x=>x.isPrefixOf (s.data.toList.drop i))=(signsL.drop (k+1)).find? (fun x=>x.isPrefixOf (s.data.toList.drop i)) by rw [HF.out,hdk,List.find?_cons,hp])
        rw [hp] at con3
        clear hp hdk hpx hx hxe hx2
        go_wp2_with fail
        refine con3.mono ?_
        rintro e w6 ⟨rfl,rfl⟩
        clear con3
        go_wp2_with fail
        go_roundw
        case rel=>exact ⟨k+1,by omega,by go_num,by first|trivial|rfl,HN⟩
        case measure=>simp [intOf];omega
     · obtain rfl:k=11:=by omega
       have HR:=hid (tok_none (i:=i) HL.out HLF.out HTT.out.symm H39.out (by rw [HF.out];rfl))
       have con:=fail_any i 60 wr
       go_wp2_with fail
       refine con.mono ?_
       rintro e w7 ⟨rfl,rfl⟩
       go_wp2_with fail
       refine ⟨rfl,?_⟩
       rw [HPST.out]
       refine ⟨B2.out,?_⟩
       rw [HR.out]
end
section
open Go.RowKit
theorem quote_len:∀ (n:Nat) (L:List UInt8) (q:List UInt8 × Nat),L.length<=n->quoteM L=some q->q.2<=L.length
 | 0,L,q,hn,h=>by
  have:L=[]:=List.length_eq_zero_iff.1 (by omega)
  subst this
  cases h
 | n+1,L,q,hn,h=>by
  rw [quoteM.eq_def] at h
  split at h
  · cases h
  · rename_i r
    rw [Option.map_eq_some_iff] at h
    obtain ⟨z,h1,rfl⟩:=h
    have:=quote_len n r z (by simp at hn;omega) h1
    simp;omega
  · cases h
    simp
  · rename_i c r _ _
    rw [Option.map_eq_some_iff] at h
    obtain ⟨z,h1,rfl⟩:=h
    have:=quote_len n r z (by simp at hn;omega) h1
    simp;omega
theorem span_le (p:UInt8->Bool) (L:List UInt8):spanN p L<=L.length:=(List.takeWhile_sublist _).length_le
theorem tok_ok {L:List UInt8} {i:Nat} {q:Tok × Nat} (h:tokM L i=.ok q) (hL:L.length<=4294967000):TokOk q.1/\1<=q.2/\q.2<=L.length:=by
 unfold tokM at h
 split at h
 · cases h
 · rename_i c r
   split at h
   · rename_i hl
     cases h
     refine ⟨⟨fun e=>absurd e (by show ¬ (1:Int)=4;decide),?_,by show (-9223372036854775808:Int)<=0;decide,by show (0:Int)<=9223372036854775807;decide⟩,?_,span_le _ _⟩
     · show ((c :: r).take _).length<=_
       rw [List.length_take]
       omega
     · unfold spanN
       have:inB c=true:=by unfold inB;rw [hl];rfl
       rw [List.takeWhile_cons,this]
       simp
   · split at h
     · split at h
       · rename_i v hv
         cases h
         have hb:-9223372036854775808<=v/\v<=9223372036854775807:=by
          unfold numM at hv
          simp only at hv
          split at hv
          all_goals
           split at hv
           · cases hv
             assumption
           · cases hv
         refine ⟨⟨fun e=>absurd e (by show ¬ (2:Int)=4;decide),by show (0:Nat)<=_;omega,hb.1,hb.2⟩,by show 1<=1+_;omega,?_⟩
         have:=span_le digB r
         show 1+spanN digB r<=r.length+1
         omega
       · cases h
     · split at h
       · split at h
         · rename_i z hz
           split at h
           · rename_i h40
             cases h
             have:=quote_len _ r z (jR _) hz
             refine ⟨⟨fun e=>absurd e (by show ¬ (3:Int)=4;decide),by show z.1.length<=_;omega,by show (-9223372036854775808:Int)<=0;decide,by show (0:Int)<=9223372036854775807;decide⟩,by show 1<=z.2+1;omega,?_⟩
             show z.2+1<=r.length+1
             omega
           · cases h
         · cases h
       · split at h
         · rename_i x hx
           cases h
           have hm:=List.mem_of_find?_eq_some hx
           have hp:=List.find?_some hx
           have h2:∀ y ∈ signsL,1<=y.length/\y.length<=2/\(⟨⟨y⟩⟩:ByteArray) ≠ w_null:=by decide
           obtain ⟨h3,h4,h5⟩:=h2 x hm
           refine ⟨⟨fun _=>h5,by show x.length<=_;omega,by show (-9223372036854775808:Int)<=0;decide,by show (0:Int)<=9223372036854775807;decide⟩,h3,?_⟩
           exact (List.isPrefixOf_iff_prefix.1 hp).length_le
         · cases h
end
section
open Go
def LX (L:List UInt8) (k:Nat) (acc:List Tok):Prop:=acc.length<=k/\(∀ t ∈ acc,TokOk t)/\lexAt L 0=(lexAt (L.drop k) k).map (acc ++ ·)
theorem LX.start (L:List UInt8):LX L 0 []:=by
 refine ⟨jR _,(fun t ht=>by cases ht),?_⟩
 show lexAt L 0=(lexAt L 0).map fun x=>x
 cases lexAt L 0 <;> rfl
theorem LX.white {L r:List UInt8} {k:Nat} {acc:List Tok} {c:UInt8} (h:LX L k acc) (hd:L.drop k=c :: r) (hr:L.drop (k+1)=r) (hc:whiteB c=true):LX L (k+1) acc :=
 ⟨Nat.le_succ_of_le h.1,h.2.1,by rw [h.2.2,hd,lex_white hc,hr]⟩
theorem lex_cons {c:UInt8} {r:List UInt8} {i:Nat} (hc:whiteB c=false):lexAt (c :: r) i=(match tokM (c :: r) i with | .error e=>.error e | .ok q=>(lexAt ((c :: r).drop q.2) (i+q.2)).map (q.1 :: ·)):=by
 unfold lexAt
 rw [List.length_cons]
 conv=>lhs;unfold lexGo
 rw [if_neg (by rw [hc];decide)]
 cases e:tokM (c :: r) i with
 | error e=>rfl
 | ok q =>
  have hp:=tok_pos e
  have hl:((c :: r).drop q.2).length<=r.length:=by simp;omega
  simp only
  rw [lex_fuel r.length _ hl _ _ hl (jR _)]
theorem LX.tok {L r:List UInt8} {k:Nat} {acc:List Tok} {c:UInt8} {q:Tok × Nat} (h:LX L k acc) (hd:L.drop k=c :: r) (hc:whiteB c=false) (ht:tokM (L.drop k) k=.ok q) (hL:L.length<=4294967000) :
 LX L (k+q.2) (acc ++ [q.1])/\1<=q.2/\k+q.2<=L.length:=by
 obtain ⟨h1,h2,h3⟩:=tok_ok ht (by rw [List.length_drop];omega)
 rw [List.length_drop] at h3
 have hk:k<L.length:=by
  rcases Nat.lt_or_ge k L.length with h|h
  · exact h
  · rw [List.drop_eq_nil_of_le h] at hd;cases hd
 refine ⟨⟨by simp;have:=h.1;omega,fun t hm=>?_,?_⟩,h2,by omega⟩
 · rcases List.mem_append.1 hm with hm|hm
   · exact h.2.1 t hm
   · cases List.mem_singleton.1 hm
     exact h1
 · rw [h.2.2,hd,lex_cons hc,<- hd,ht]
   simp only
   rw [List.drop_drop]
   cases lexAt (L.drop (k+q.2)) (k+q.2) with
   | error e=>rfl
   | ok ts=>simp [Except.map]
theorem LX.err {L r:List UInt8} {k:Nat} {acc:List Tok} {c:UInt8} {e:PErr} (h:LX L k acc) (hd:L.drop k=c :: r) (hc:whiteB c=false) (ht:tokM (L.drop k) k=.error e):lexAt L 0=.error e:=by
 rw [h.2.2,hd,lex_cons hc,<- hd,ht]
 rfl
theorem LX.done {L:List UInt8} {k:Nat} {acc:List Tok} (h:LX L k acc) (hk:L.length<=k):lexAt L 0=.ok acc:=by
 rw [h.2.2,List.drop_eq_nil_of_le hk,lex_nil]
 simp [Except.map]
theorem white_index (c:UInt8):(0<=Lib.indexByte (⟨#[32,9,10,13]⟩:ByteArray).data.toList c) ↔ whiteB c=true:=by
 have h2:∀ n<256,(decide (0<=Lib.indexByte [32,9,10,13] (UInt8.ofNat n))=whiteB (UInt8.ofNat n)):=by decide +kernel
 have:=h2 c.toNat c.toNat_lt
 rw [UInt8.ofNat_toNat] at this
 rw [<- this]
 simp
end
end Go.Proofs.YtjcpccadmcglgaaGreatDoor
