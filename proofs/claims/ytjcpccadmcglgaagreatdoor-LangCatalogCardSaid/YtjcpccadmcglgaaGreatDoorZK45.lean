/- printed: a statement's tokens, joined. -/
import Derived.Test.YtjcpccadmcglgaaGreatDoorZK38
import Derived.Test.YtjcpccadmcglgaaGreatDoorZK44
set_option linter.unusedVariables false
set_option linter.unusedSimpArgs false
set_option maxRecDepth 100000
set_option maxHeartbeats 64000000
namespace Go.Proofs.YtjcpccadmcglgaaGreatDoor
open Go.Lib (hid)
section
open Go.RowKit
def joinT:List ByteArray->List UInt8
 | []=>[]
 | x :: r=>joinP x r
theorem joinP_snoc (y z:ByteArray):∀ (A:List ByteArray) (a:ByteArray),joinP a (A ++ [y,z])=joinP a (A ++ [y]) ++ ((if gapB y z then [32] else []) ++ z.data.toList)
 | [],a=>by simp [joinP]
 | c :: A,a=>by
  show a.data.toList ++ ((if gapB a c then [32] else []) ++ joinP c (A ++ [y,z]))=(a.data.toList ++ ((if gapB a c then [32] else []) ++ joinP c (A ++ [y]))) ++ _
  rw [joinP_snoc y z A c]
  simp only [List.append_assoc]
theorem joinT_snoc (y z:ByteArray) (A:List ByteArray):joinT (A ++ [y,z])=joinT (A ++ [y]) ++ ((if gapB y z then [32] else []) ++ z.data.toList):=by
 cases A with
 | nil=>simp [joinT,joinP]
 | cons a A=>exact joinP_snoc y z A a
theorem joinT_next {T:List ByteArray} {k:Nat} (hk:k+1<T.length):joinT (T.take (k+2))=joinT (T.take (k+1)) ++ ((if gapB T[k] T[k+1] then [32] else []) ++ T[k+1].data.toList):=by
 have h1:T.take (k+2)=T.take k ++ [T[k],T[k+1]]:=by
  rw [List.take_succ_eq_append_getElem hk,List.take_succ_eq_append_getElem (by omega),List.append_assoc];rfl
 rw [h1,joinT_snoc,<- List.take_succ_eq_append_getElem (by omega)]
theorem joinT_first {T:List ByteArray} (hk:0<T.length):joinT (T.take 1)=T[0].data.toList:=by
 cases T with
 | nil=>simp at hk
 | cons x r=>simp [joinT,joinP]
theorem joinT_le {T:List ByteArray}:∀ (j k:Nat),k+j=T.length->(joinT (T.take k)).length<=(joinT T).length
 | 0,k,h=>by rw [List.take_of_length_le (by omega)];exact jR _
 | j+1,k,h=>by
  refine Nat.le_trans ?_ (joinT_le j (k+1) (by omega))
  cases k with
  | zero=>simp [joinT]
  | succ k =>
   rw [joinT_next (by omega),List.length_append]
   exact Nat.le_add_right _ _
theorem printed_join (s:Stmt):printedM s=⟨⟨joinT (tokensP s)⟩⟩:=by
 unfold printedM
 split
 · rename_i h;rw [h];rfl
 · rename_i x r h;rw [h];rfl
theorem lit_eq (x:ByteArray) (l:List UInt8):(x.toList == l)=decide (x=⟨⟨l⟩⟩):=by
 rw [toList_data]
 by_cases h:x=⟨⟨l⟩⟩
 · rw [decide_eq_true h,h];simp
 · rw [decide_eq_false h]
   have:¬ x.data.toList=l:=fun e=>h (by apply ByteArray.ext;apply Array.toList_inj.1;rw [e])
   simpa using this
theorem gap_lit (y x:ByteArray):gapB y x=(!(x.toList == [41]) && !(x.toList == [44]) && !(y.toList == [40])):=by
 rw [lit_eq,lit_eq,lit_eq,<- decide_not,<- decide_not,<- decide_not]
 rfl
theorem ws_any {w w1:World} {l:List UInt8} (s:ByteArray) (h:BB w l w1) (hlen:l.length+s.size<=140737488355328) :
 Calls Tryz.prog 22 #[.pointer (some ⟨w.heap.size,0,none⟩),.string s] w1 fun e w'=>e=.returned (.tuple #[.int .i64 s.size,.nilIface])/\BB w (l ++ s.data.toList) w' :=
 (Tryz.Builder_WriteString_k w.heap.size w.heap.size (Lib.byteCells l) s w1 h.2 (by simpa [Lib.byteCells] using hlen) h.1.size).mono fun _ _ ⟨h0,h1,h2,_⟩ =>
  ⟨h0,h.1.trans h2,by rw [show Lib.byteCells (l ++ s.data.toList)=Lib.byteCells l ++ Lib.strCells s by simp [Lib.byteCells,Lib.strCells]];exact Or.inr h1⟩
theorem printed_any {p:Nat->Prop} {L:Lists} {s:Stmt} {w:World} (he:EnvL w) (hs:SlsAt p w L s) (ok:StOk s) (hsz:(printedM s).size<=4294967000) :
 Calls Tryz.prog 14 #[.agg (stC L s)] w fun e w'=>e=.returned (.string (printedM s))/\Below w.heap.size w w':=by
 obtain ⟨Pst,hPst⟩:∃ Pst,Pst=fun (e:Ending) (w':World)=>e=.returned (.string (printedM s))/\Below w.heap.size w w':=⟨_,rfl⟩
 have HPST:=hid hPst
 rw [<- hPst]
 obtain ⟨⟨ca,cc,e1⟩,⟨na,nc,e2⟩,⟨ra,rc,e3⟩,⟨ea,ec,e4⟩,⟨wa,wc,e5⟩,⟨oa,oc,e6⟩⟩:=hs.shapes
 obtain ⟨Lc,Ln,Lr,Ls,Lw,Lo⟩:=L
 simp only at e1 e2 e3 e4 e5 e6
 subst e1 e2 e3 e4 e5 e6
 obtain ⟨TT,hTT⟩:∃ T,T=tokensP s:=⟨_,rfl⟩
 have HTT:=hid hTT
 have HPR:=hid (show printedM s=⟨⟨joinT TT⟩⟩ by rw [hTT];exact printed_join s)
 have hjl:(joinT TT).length<=4294967000:=by rw [HPR.out] at hsz;exact hsz
 have HOK:=hid ok
 obtain ⟨sk,stb,snm,scols,snames,srow,ssets,swher,sj,sl,sr,sa,sorder,sm,sn⟩:=s
 simp only at hs
 simp only [stC]
 obtain ⟨W1,hW1⟩:∃ W,w.alloc (.cells #[.int .i64 sk,.string stb,.string snm,.slice ca scols.length cc,.slice na snames.length nc,.slice ra srow.length rc,.slice ea ssets.length ec,.slice wa swher.length wc,.string sj,.string sl,.string sr,.int .i64 sa,.slice oa sorder.length oc,.int .i64 sm,.int .i64 sn] 33)=W:=⟨_,rfl⟩
 obtain ⟨W2,hW2⟩:∃ W,W1.alloc (.cells #[.slice none 0 0] 104)=W:=⟨_,rfl⟩
 have h1s:W1.heap.size=w.heap.size+1:=by rw [<- hW1];simp
 have h2s:W2.heap.size=w.heap.size+2:=by rw [<- hW2];simp [h1s]
 have b2:Below w.heap.size w W2:=by rw [<- hW2,<- hW1];exact ((b0R).alloc (jR _) _).alloc (by simp) _
 have hb0:W2.heap[w.heap.size]? = some (.cells #[.int .i64 sk,.string stb,.string snm,.slice ca scols.length cc,.slice na snames.length nc,.slice ra srow.length rc,.slice ea ssets.length ec,.slice wa swher.length wc,.string sj,.string sl,.string sr,.int .i64 sa,.slice oa sorder.length oc,.int .i64 sm,.int .i64 sn] 33 (0,0)):=by rw [<- hW2,heap_alloc_old _ _ (by omega),<- hW1];exact heap_alloc_new _ _
 have hb1:W2.heap[w.heap.size+1]? = some (.cells #[.slice none 0 0] 104 (0,0)):=by rw [<- hW2,<- h1s];exact heap_alloc_new _ _
 have hq:QAt (fun k=>k<w.heap.size+1) (w.heap.size+1) [] W2:=⟨he.below b2,fun k hk=>by
  have:=he.lt
  rcases hk with rfl|rfl|rfl|rfl <;> omega,fun k hk=>hk,fun k hk=>by omega,Nat.lt_irrefl _,⟨_,hb1,nil_own _ _ _ _⟩⟩
 have hs2:SlsAt (fun k=>k<w.heap.size+1) W2 ⟨.slice ca scols.length cc,.slice na snames.length nc,.slice ra srow.length rc,.slice ea ssets.length ec,.slice wa swher.length wc,.slice oa sorder.length oc⟩ ⟨sk,stb,snm,scols,snames,srow,ssets,swher,sj,sl,sr,sa,sorder,sm,sn⟩:=(hs.bound.keep fun k hk hl=>b2.block k hk.2).weaken fun k hk=>Nat.lt_succ_of_lt hk.2
 have z0:=jC hb0 0
 have z1:=jC hb0 1
 have z2:=jC hb0 2
 have z3:=jC hb0 3
 have z4:=jC hb0 4
 have z5:=jC hb0 5
 have z6:=jC hb0 6
 have z7:=jC hb0 7
 have z8:=jC hb0 8
 have z9:=jC hb0 9
 have z10:=jC hb0 10
 have z11:=jC hb0 11
 have z12:=jC hb0 12
 have z13:=jC hb0 13
 have z14:=jC hb0 14
 simp only [gT,gZ,gS] at z0 z1 z2 z3 z4 z5 z6 z7 z8 z9 z10 z11 z12 z13 z14
 have con:=ptokens_any hq hs2 HOK.out (by simp)
 rw [<- hTT,List.nil_append] at con
 have B2:=hid b2
 clear hPst he hs ok hsz hTT b2 hb0 hb1 hq hs2
 go_enter Tryz.func14,Tryz.ntmps14
 go_wp2_with fail
 refine con.mono ?_
 rintro e w3 ⟨rfl,k3,q3⟩
 obtain ⟨v,hb3,ho3⟩:=q3.box
 obtain ⟨n,hn⟩:∃ n,n=TT.length:=⟨_,rfl⟩
 obtain ⟨ta,tc,rfl,-⟩:=owns_shape' ho3.1
 obtain ⟨a9,c9,e9,h9,hrow,-⟩:=RowAt.of_owns_flat (enc:=strEnc) (sz:=1) (hl:=fun _=>rfl) (p:=fun _=>True) ho3.1 (fun _ _=>trivial)
 simp only [Value.slice.injEq] at e9
 obtain ⟨rfl,-,rfl⟩:=e9
 have HROW:=hid (show RowAt strF (fun _=>True) w3 ta TT from hrow)
 have B3:=hid (show Below w.heap.size w w3 from B2.out.trans (k3.below (fun k hk=>Nat.lt_succ_of_lt hk) (by omega)))
 rw [<- hn] at hb3
 have HN:=hid hn
 have hnn:n<=9223372036854775807:=by
  have h9:=ho3.1
  rw [hn]
  rcases h9.2 with ⟨_,h0⟩|⟨g,cap,cur,_,_,_,hc,hm,_⟩
  · omega
  · exact Nat.le_trans hc hm
 obtain ⟨W4,hW4⟩:∃ W,w3.alloc (.cells #[.pointer none,.slice none 0 0] 80)=W:=⟨_,rfl⟩
 have hbb:BB w3 [] W4:=by rw [<- hW4];exact bb_start w3
 have zp:=jC ((hbb.1.block _ (jB hb3)).trans hb3) 0
 simp only [List.getElem?_toArray,List.getElem?_cons_zero] at zp
 have HB3:=hid hb3
 have HBB:=hid (show BB w3 (joinT (TT.take 0)) W4 from hbb)
 clear con k3 q3 ho3 hrow h9 hbb hn hb3 z0 z1 z2 z3 z4 z5 z6 z7 z8 z9 z10 z11 z12 z13 z14
 go_wp2_with fail
 clear zp
 go_loopw [17] (fun ii wr=>∃ k:Nat,k<=n/\ii=.int .i64 k/\Hid (BB w3 (joinT (TT.take k)) wr)) (fun ii _=>n - (intOf ii).toNat)
 case atStart=>exact ⟨0,Nat.zero_le _,rfl,HBB⟩
 case round =>
  obtain ⟨k,hk,rfl,HB⟩:=hrel
  by_cases hlt:k<n
  · have hkt:k<TT.length:=by rw [<- HN.out];exact hlt
    have hr:=HROW.out.keep (w':=wr) fun j _ hj=>HB.out.1.block j hj
    obtain ⟨g,o,rfl,_,hgl⟩:=hr.addr (by intro e;rw [e] at hkt;cases hkt)
    have c1:=hr.flat k hkt 0 (by decide)
    simp only [strEnc,List.getElem?_cons_zero,Nat.mul_one,Nat.add_zero] at c1
    have hle:(joinT (TT.take k)).length<=4294967000:=Nat.le_trans (joinT_le (TT.length - k) k (by omega)) hjl
    cases k with
    | zero =>
     obtain ⟨x,hx⟩:∃ x,TT[0]=x:=⟨_,rfl⟩
     rw [hx,Nat.add_zero] at c1
     have HJ:=hid (show joinT (TT.take 1)=x.data.toList by rw [joinT_first hkt,hx])
     have hle2:(joinT (TT.take 1)).length<=4294967000:=Nat.le_trans (joinT_le (TT.length - 1) 1 (by omega)) hjl
     have hsx:x.size<=4294967000:=by
      rw [HJ.out] at hle2
      simpa using hle2
     clear hr hx hle hle2
     have con:=ws_any x HB.out (by show (joinT []).length+_<=_;show 0+x.size<=_;omega)
     go_wp2_with fail
     refine con.mono ?_
     rintro e w6 ⟨rfl,b6⟩
     have HB6:=hid (show BB w3 (joinT (TT.take 1)) w6 by rw [HJ.out];exact b6)
     clear con b6
     go_wp2_with fail
     go_roundw
     case rel=>exact ⟨1,hlt,by go_num,HB6⟩
     case measure=>simp [intOf];omega
    | succ j =>
     have c0:=hr.flat j (by omega) 0 (by decide)
     simp only [strEnc,List.getElem?_cons_zero,Nat.mul_one,Nat.add_zero] at c0
     have HJ1:=hid (joinT_next hkt)
     have hle2:(joinT (TT.take (j+2))).length<=4294967000:=Nat.le_trans (joinT_le (TT.length - (j+2)) (j+2) (by omega)) hjl
     obtain ⟨x,hx⟩:∃ x,TT[j+1]=x:=⟨_,rfl⟩
     obtain ⟨y,hy⟩:∃ y,TT[j]=y:=⟨_,rfl⟩
     rw [hx] at c1
     rw [hy] at c0
     have HJ0:=hid (show joinT (TT.take (j+2))=joinT (TT.take (j+1)) ++ ((if gapB y x then [32] else []) ++ x.data.toList) by rw [HJ1.out,hx,hy])
     have zq:=jC ((HB.out.1.block _ (jB HB3.out)).trans HB3.out) 0
     simp only [List.getElem?_toArray,List.getElem?_cons_zero] at zq
     have hj1:j<n:=by omega
     have HG0:=hid (gap_lit y x)
     clear hr hx hy hkt HJ1
     cases e41:(x.toList == [41]) with
     | true =>
      have HG:=hid (show gapB y x=false by rw [HG0.out,e41];rfl)
      have HJ:=hid (show joinT (TT.take (j+2))=joinT (TT.take (j+1)) ++ ([] ++ x.data.toList) by rw [HJ0.out,HG.out];rfl)
      have hsx:(joinT (TT.take (j+1))).length+0+x.size<=4294967000:=by
       have h9:=hle2
       rw [HJ.out] at h9
       have hx9:x.data.toList.length=x.size:=by simp
       simp only [List.length_append,List.length_cons,List.length_nil] at h9
       omega
      clear hle2
      have con:=ws_any x HB.out (by omega)
      go_wp2_with fail
      refine con.mono ?_
      rintro e w6 ⟨rfl,b6⟩
      have HB6:=hid (show BB w3 (joinT (TT.take (j+2))) w6 by rw [HJ.out];exact b6)
      clear con b6
      go_wp2_with fail
      go_roundw
      case rel=>exact ⟨j+2,hlt,by go_num,HB6⟩
      case measure=>simp [intOf];omega
     | false =>
      cases e44:(x.toList == [44]) with
      | true =>
       have HG:=hid (show gapB y x=false by rw [HG0.out,e41,e44];rfl)
       have HJ:=hid (show joinT (TT.take (j+2))=joinT (TT.take (j+1)) ++ ([] ++ x.data.toList) by rw [HJ0.out,HG.out];rfl)
       have hsx:(joinT (TT.take (j+1))).length+0+x.size<=4294967000:=by
        have h9:=hle2
        rw [HJ.out] at h9
        have hx9:x.data.toList.length=x.size:=by simp
        simp only [List.length_append,List.length_cons,List.length_nil] at h9
        omega
       clear hle2
       have con:=ws_any x HB.out (by omega)
       go_wp2_with fail
       refine con.mono ?_
       rintro e w6 ⟨rfl,b6⟩
       have HB6:=hid (show BB w3 (joinT (TT.take (j+2))) w6 by rw [HJ.out];exact b6)
       clear con b6
       go_wp2_with fail
       go_roundw
       case rel=>exact ⟨j+2,hlt,by go_num,HB6⟩
       case measure=>simp [intOf];omega
      | false =>
       cases e40:(y.toList == [40]) with
       | true =>
        have HG:=hid (show gapB y x=false by rw [HG0.out,e41,e44,e40];rfl)
        have HJ:=hid (show joinT (TT.take (j+2))=joinT (TT.take (j+1)) ++ ([] ++ x.data.toList) by rw [HJ0.out,HG.out];rfl)
        have hsx:(joinT (TT.take (j+1))).length+0+x.size<=4294967000:=by
         have h9:=hle2
         rw [HJ.out] at h9
         have hx9:x.data.toList.length=x.size:=by simp
         simp only [List.length_append,List.length_cons,List.length_nil] at h9
         omega
        clear hle2
        have con:=ws_any x HB.out (by omega)
        go_wp2_with fail
        refine con.mono ?_
        rintro e w6 ⟨rfl,b6⟩
        have HB6:=hid (show BB w3 (joinT (TT.take (j+2))) w6 by rw [HJ.out];exact b6)
        clear con b6
        go_wp2_with fail
        go_roundw
        case rel=>exact ⟨j+2,hlt,by go_num,HB6⟩
        case measure=>simp [intOf];omega
       | false =>
        have HG:=hid (show gapB y x=true by rw [HG0.out,e41,e44,e40];rfl)
        have HJ:=hid (show joinT (TT.take (j+2))=joinT (TT.take (j+1)) ++ ([32] ++ x.data.toList) by rw [HJ0.out,HG.out];rfl)
        have hsx:(joinT (TT.take (j+1))).length+1+x.size<=4294967000:=by
         have h9:=hle2
         rw [HJ.out] at h9
         have hx9:x.data.toList.length=x.size:=by simp
         simp only [List.length_append,List.length_cons,List.length_nil] at h9
         omega
        clear hle2
        have con:=wb_any 32 HB.out (by omega)
        go_wp2_with fail
        refine con.mono ?_
        rintro e w5 ⟨rfl,b5⟩
        have HB5:=hid b5
        clear con b5
        have con:=ws_any x HB5.out (by rw [List.length_append];show _+1+_<=_;omega)
        go_wp2_with fail
        refine con.mono ?_
        rintro e w6 ⟨rfl,b6⟩
        have HB6:=hid (show BB w3 (joinT (TT.take (j+2))) w6 by rw [HJ.out];rw [<- List.append_assoc];exact b6)
        clear con b6
        go_wp2_with fail
        go_roundw
        case rel=>exact ⟨j+2,hlt,by go_num,HB6⟩
        case measure=>simp [intOf];omega
  · obtain rfl:k=n:=by omega
    have con:=string_any HB.out
    go_wp2_with fail
    refine con.mono ?_
    rintro e w6 ⟨rfl,b6⟩
    have B6:=hid (B3.out.trans (b6.mono B3.out.size))
    clear con b6
    go_wp2_with fail
    rw [HPST.out]
    refine ⟨?_,B6.out⟩
    rw [HPR.out,HN.out,List.take_length]
    rfl
end
end Go.Proofs.YtjcpccadmcglgaaGreatDoor
