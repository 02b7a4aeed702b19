/- Lex$1: the lexer's loop: the tokens of the text, put into the cell of out, or the error's . -/
import Derived.Test.YtjcpccadmcglgaaGreatDoorZK33
import Derived.Test.YtjcpccadmcglgaaGreatDoorZK42
import Derived.Test.YtjcpccadmcglgaaGreatDoorZK10
import Derived.Test.YtjcpccadmcglgaaGreatDoorZK34
set_option linter.unusedVariables false
set_option linter.unusedSimpArgs false
set_option maxRecDepth 100000
set_option maxHeartbeats 64000000
namespace Go.Proofs.YtjcpccadmcglgaaGreatDoor
open Go.Lib (hid)
section
open Go.RowKit
theorem tok_cells (a b d:Int) (c:ByteArray):∀ u ∈ [Value.int .i64 a,.int .i64 b,.string c,.int .i64 d],u.oneCell'=true:=by
 intro u hu
 simp only [List.mem_cons,List.not_mem_nil,or_false] at hu
 rcases hu with rfl|rfl|rfl|rfl <;> rfl
def LI (s:ByteArray) (qo:Nat) (w:World) (k:Nat) (acc:List Tok) (v:Value) (wr:World):Prop :=
 w.grownBy wr (some qo)/\wr.heap[qo]? = some (.cells #[v] 46 (0,0))/\wr.ownsRow w.heap.size 56 4 v acc.length (acc.flatMap tokEnc)/\LX s.data.toList k acc
theorem LI.push {s:ByteArray} {qo k n:Nat} {w w4 WA w5:World} {acc:List Tok} {v v':Value} {t:Tok} (hq:qo<w.heap.size) (g4:w.grownBy w4 (some qo)) (o4:w4.ownsRow w.heap.size 56 4 v acc.length (acc.flatMap tokEnc))
 (hz:w4.heap[qo]? = some (.cells #[v] 46 (0,0))) (bA:Below w4.heap.size w4 WA) (g5:WA.grownBy w5 v.ownBlock) (o5:w5.ownsRow w.heap.size 56 4 v' (acc.length+1) (acc.flatMap tokEnc ++ tokEnc t)) (hx:LX s.data.toList (k+n) (acc ++ [t])) :
 LI s qo w (k+n) (acc ++ [t]) v' (w5.setCell ⟨qo,0,none⟩ v'):=by
 have gA:w.grownBy WA (some qo):=g4.trans (below_grown bA _)
 have h5:w.grownBy w5 (some qo):=gA.andThen g5 fun j hj=>Or.inl (o4.lt j hj).1
 have hz5:w5.heap[qo]? = some (.cells #[v] 46 (0,0)):=(g5.block qo (jL hq gA.size) fun e=>by
  have:=(o4.lt qo e.symm).1
  omega).trans ((bA.block _ (jB hz)).trans hz)
 refine ⟨h5.trans (grown_set _ _ _ _),heap_setCell_same _ _ 0 _ _ v' hz5,?_,hx⟩
 have e1:(acc ++ [t]).length=acc.length+1:=by simp
 have e2:(acc ++ [t]).flatMap tokEnc=acc.flatMap tokEnc ++ tokEnc t:=by simp
 rw [e1,e2]
 refine o5.kept (grown_set _ _ _ _) (Or.inr fun e=>?_)
 have:=(o5.lt qo e).1
 omega
def Lex1Post (s:ByteArray) (qo:Nat) (w:World) (e:Ending) (w':World):Prop :=
 w.grownBy w' (some qo)/\((∃ ts v,lexM s=.ok ts/\e=.returned (.tuple #[])/\w'.heap[qo]? = some (.cells #[v] 46 (0,0))/\w'.ownsRow w.heap.size 56 4 v ts.length (ts.flatMap tokEnc)/\(∀ t ∈ ts,TokOk t)/\ts.length<=s.size) \/ ∃ er,lexM s=.error er/\e=trouble er)
theorem lex1_any {s:ByteArray} {w:World} {qs qo:Nat} (he:EnvL w) (hg:∀ k,Glob k->k ≠ qo) (hs:s.size<=4294967000) (hqs:w.heap[qs]? = some (.cells #[.string s] 9 (0,0))) (hqo:w.heap[qo]? = some (.cells #[.slice none 0 0] 46 (0,0))) (hne:qs ≠ qo) :
 Calls Tryz.prog 27 #[.pointer (some ⟨qs,0,none⟩),.pointer (some ⟨qo,0,none⟩)] w fun e w'=>Lex1Post s qo w e w':=by
 obtain ⟨Pst,hPst⟩:∃ Pst,Pst=Lex1Post s qo w:=⟨_,rfl⟩
 have HPST:=hid hPst
 rw [<- hPst]
 have SQ:=hid (show ∀ w',w.grownBy w' (some qo)->w'.heap[qs]? = some (.cells #[.string s] 9 (0,0)) from fun w' g=>(g.block _ (jB hqs) (by simpa using hne)).trans hqs)
 have HE:=hid (show ∀ w',w.grownBy w' (some qo)->EnvL w' from fun w' g=>he.same fun k hk hl=>g.block k hl (by simpa using hg k hk))
 have h0:LI s qo w 0 [] (.slice none 0 0) w:=⟨⟨rfl,rfl,rfl,jR _,fun _ _ _=>rfl⟩,hqo,World.ownsRow_nil _ _ _ _,LX.start _⟩
 have H0:=hid h0
 clear hPst he hg hqs hqo hne h0
 go_enter Tryz.func27,Tryz.ntmps27
 go_wp2_with fail
 go_loopw [2] (fun ii wr=>∃ (k:Nat) (acc:List Tok) (v:Value),k<=s.size/\ii=.int .i64 k/\Hid (LI s qo w k acc v wr)) (fun ii _=>s.size - (intOf ii).toNat)
 case atStart=>exact ⟨0,[],_,Nat.zero_le _,rfl,H0⟩
 case round =>
  obtain ⟨k,acc,v,hk,rfl,HI⟩:=hrel
  have kp:=jC (SQ.out _ HI.out.1) 0
  simp only [List.getElem?_toArray,List.getElem?_cons_zero] at kp
  by_cases hlt:k<s.size
  · have con:=Tryz.strings_IndexByte ⟨#[32,9,10,13]⟩ (s[k].toNat:Nat) wr
    have hz0:((s[k].toNat:Nat):Int).toNat.toUInt8=s[k]:=by rw [Int.toNat_natCast];exact UInt8.ofNat_toNat
    rw [hz0] at con
    have hw:=white_index s[k]
    obtain ⟨z,hz⟩:∃ z,z=Lib.indexByte (⟨#[32,9,10,13]⟩:ByteArray).data.toList s[k]:=⟨_,rfl⟩
    rw [<- hz] at con hw
    clear hz hz0
    have HD:=hid (drop_step s k hlt)
    cases hc:whiteB s[k] with
    | true =>
     have hz1:0<=z:=hw.2 hc
     have HX:=hid (HI.out.2.2.2.white HD.out rfl hc)
     clear hc hw
     go_wp2_with fail
     refine con.mono ?_
     rintro e w2 ⟨rfl,rfl⟩
     clear con
     go_wp2_with fail
     go_roundw
     case rel=>exact ⟨k+1,acc,v,by omega,by go_num,hid ⟨HI.out.1,HI.out.2.1,HI.out.2.2.1,HX.out⟩⟩
     case measure=>simp [intOf];omega
    | false =>
     have hz1:z<0:=by
      rcases Int.lt_or_le z 0 with h|h
      · exact h
      · rw [hw.1 h] at hc;cases hc
     obtain ⟨W,hW⟩:∃ W,wr.alloc (.cells #[.int .i64 0,.int .i64 0,.string ⟨#[]⟩,.int .i64 0] 56)=W:=⟨_,rfl⟩
     have bW:Below wr.heap.size wr W:=by rw [<- hW];exact (b0R).alloc (jR _) _
     have hqt:W.heap[wr.heap.size]? = some (.cells #[.int .i64 0,.int .i64 0,.string ⟨#[]⟩,.int .i64 0] 56 (0,0)):=by rw [<- hW];exact heap_alloc_new _ _
     have gW:w.grownBy W (some qo):=HI.out.1.trans (below_grown bW _)
     have GW:=hid gW
     have kp2:=jC (SQ.out _ gW) 0
     simp only [List.getElem?_toArray,List.getElem?_cons_zero] at kp2
     have QT:=hid hqt
     have con2:=token_any s k hlt hs (HE.out _ gW)
     have HBW:=hid bW
     clear bW gW hqt
     cases ht:tokM (s.data.toList.drop k) k with
     | error er =>
      have HR:=hid (show lexM s=.error er by rw [lexM_at];exact HI.out.2.2.2.err HD.out hc ht)
      have con3:Calls Tryz.prog 29 #[.string s,.int .i64 k] W fun e w'=>e=trouble er/\Below W.heap.size W w':=con2.mono fun e w' h=>by
       obtain ⟨h1,h2⟩:=h
       rw [ht] at h2
       exact ⟨h2,h1⟩
      clear hc hw ht con2
      go_wp2_with fail
      refine con.mono ?_
      rintro e w2 ⟨rfl,rfl⟩
      clear con
      go_wp2_with fail
      refine con3.mono ?_
      rintro e w3 ⟨rfl,b3⟩
      have G3:=hid (GW.out.trans (below_grown b3 _))
      clear con3 b3
      go_wp2_with fail
      refine ⟨rfl,?_⟩
      rw [HPST.out]
      exact ⟨G3.out,Or.inr ⟨er,HR.out,rfl⟩⟩
     | ok q =>
      obtain ⟨⟨tk,tp,tt,tn⟩,n⟩:=q
      obtain ⟨hlx,hn1,hn2⟩:=HI.out.2.2.2.tok HD.out hc ht (by simpa using hs)
      have hn3:k+n<=s.size:=by simpa using hn2
      have HX:=hid hlx
      have con3:Calls Tryz.prog 29 #[.string s,.int .i64 k] W fun e w'=>e=.returned (.tuple #[.agg #[.int .i64 tk,.int .i64 tp,.string tt,.int .i64 tn],.int .i64 ((k+n:Nat):Int)])/\Below W.heap.size W w':=con2.mono fun e w' h=>by
       obtain ⟨h1,h2⟩:=h
       rw [ht] at h2
       exact ⟨h2,h1⟩
      clear hc hw ht con2 hlx hn2
      go_wp2_with fail
      refine con.mono ?_
      rintro e w2 ⟨rfl,rfl⟩
      clear con
      go_wp2_with fail
      refine con3.mono ?_
      rintro e w3 ⟨rfl,b3⟩
      have G3:=hid (GW.out.trans (below_grown b3 (some qo)))
      have hq3:=(b3.block _ (jB QT.out)).trans QT.out
      have HQ3:=hid hq3
      have k0:=jC hq3 0
      have k1:=jC hq3 1
      have k2:=jC hq3 2
      have k3:=jC hq3 3
      have f0:=free_of hq3 0
      have f1:=free_of hq3 1
      have f2:=free_of hq3 2
      have f3:=free_of hq3 3
      simp only [gT,gZ,gS] at k0 k1 k2 k3
      have B3:=hid b3
      clear con3 b3 hq3 kp2
      go_upto_region 6 with (fail)
      clear k0 k1 k2 k3 f0 f1 f2 f3
      have ts:=tok_set (HBW.out.trans (B3.out.mono HBW.out.size)) HQ3.out (.int .i64 tk) (.int .i64 tp) (.string tt) (.int .i64 tn)
      obtain ⟨w4,hw4⟩:∃ x,x=((((w3.setCell ⟨w2.heap.size,0,none⟩ (.int .i64 tk)).setCell ⟨w2.heap.size,1,none⟩ (.int .i64 tp)).setCell ⟨w2.heap.size,2,none⟩ (.string tt)).setCell ⟨w2.heap.size,3,none⟩ (.int .i64 tn)):=⟨_,rfl⟩
      rw [<- hw4] at ts ⊢
      clear hw4
      have B4:=hid ts.2
      have hq4:=ts.1
      obtain ⟨g4,hv4,o4,_⟩:=HI.out
      have G4:=hid (g4.trans (below_grown B4.out (some qo)))
      have ho4:=(B4.out.block _ (jB hv4)).trans hv4
      have O4:=hid (owns_below o4 B4.out)
      obtain ⟨ca,cc,rfl,_⟩:=owns_shape' o4
      have k0:=jC hq4 0
      have k1:=jC hq4 1
      have k2:=jC hq4 2
      have k3:=jC hq4 3
      have z0:=jC ho4 0
      have y0:=free_of ho4 0
      simp only [gT,gZ,gS] at k0 k1 k2 k3 z0
      have HV4:=hid ho4
      have hla:acc.length<=4294967000:=Nat.le_trans HX.out.1 (by omega) |> fun h=>by have:=HI.out.2.2.2.1;omega
      clear ts hq4 g4 hv4 o4 ho4
      obtain ⟨i0,hi,hz0,hz1,hz2⟩:=info_parts (show (Tryz.prog.info? 56).map (fun i=>(i.zero,i.size,i.bytes))=some (some (.agg #[.int .i64 0,.int .i64 0,.string ByteArray.empty,.int .i64 0]),4,40) by kernel_rfl)
      have hqw:qo<w.heap.size:=jB H0.out.2.1
      have hw4s:=G4.out.size
      go_wp2_with (at_builtin;go_loud (refine wpList_append_own_at _ rfl _ _ 46 rfl w.heap.size 56 i0 _ 4 40 Tryz.underlying46 hi hz0 hz1 hz2 rfl (by decide) (.slice ca acc.length cc) acc.length _ rfl (owns_below O4.out ((b0R).alloc (jR _) _)) ⟨w4.heap.size,0,none⟩ 1 1 [.int .i64 tk,.int .i64 tp,.string tt,.int .i64 tn] rfl rfl (fun j u hj=>by rw [addr_add,jC (heap_alloc_new _ _)];simpa using hj) (tok_cells _ _ _ _) (by unfold maxLen;omega) (by omega) (by simp;omega) ?_;intro v' w5 o5 g5 hx5 at5;clear hx5 at5;obtain ⟨va,vc,rfl,-⟩:=owns_shape' o5;have ba:=(Below.refl w4.heap.size w4).alloc (jR _) (.cells #[.int .i64 tk,.int .i64 tp,.string tt,.int .i64 tn] 56);have hqv:some qo ≠ (Value.slice ca acc.length cc).ownBlock:=(fun e=>absurd (O4.out.lt qo e.symm).1 (by omega));have hz8:=hid ((g5.block _ (by have:=jB HV4.out;simp;omega) hqv).trans (ba.block _ (jB HV4.out) |>.trans HV4.out));have m7:=jC hz8.out 0;have n7:=free_of hz8.out 0;simp only [List.getElem?_toArray,List.getElem?_cons_zero] at m7;have N7:=hid (LI.push (t:=⟨tk,tp,tt,tn⟩) hqw G4.out O4.out HV4.out ba g5 o5 HX.out);clear o5 g5 ba hqv))
      go_roundw
      case rel=>exact ⟨k+n,acc ++ [⟨tk,tp,tt,tn⟩],_,hn3,by go_num,N7⟩
      case measure=>simp [intOf];omega
  · have HD:=hid (HI.out.2.2.2.done (by simpa using Nat.le_of_not_lt hlt))
    go_wp2_with fail
    go_end0
    rw [HPST.out]
    exact ⟨HI.out.1,Or.inl ⟨acc,v,by rw [lexM_at];exact HD.out,rfl,HI.out.2.1,HI.out.2.2.1,HI.out.2.2.2.2.1,Nat.le_trans HI.out.2.2.2.1 hk⟩⟩
end
section
open Go.RowKit
theorem Kept.below {X:Nat->Prop} {w w':World} {B:Nat} (h:Kept X w w') (hx:∀ k,k<B->X k) (hB:B<=w.heap.size):Below B w w' :=
 ⟨h.os,h.tape,h.output,h.size,fun k hk=>h.block k (hx k hk) (jL hk hB)⟩
theorem grown_below {w w':World} {q B:Nat} (h:w.grownBy w' (some q)) (hq:B<=q) (hB:B<=w.heap.size):Below B w w' :=
 ⟨h.os,h.tape,h.output,h.size,fun k hk=>h.block k (jL hk hB) fun e=>by cases e;omega⟩
def LexPost (s:ByteArray) (w:World) (e:Ending) (w':World):Prop :=
 Below w.heap.size w w'/\((∃ ts v,lexM s=.ok ts/\e=.returned (.tuple #[v,.int .i64 0,.int .i64 0])/\w'.ownsRow w.heap.size 56 4 v ts.length (ts.flatMap tokEnc)/\(∀ t ∈ ts,TokOk t)/\ts.length<=s.size) \/
  ∃ er:PErr,lexM s=.error er/\e=.returned (.tuple #[.slice none 0 0,.int .i64 er.1,.int .i64 er.2]))
def LexOk (s:ByteArray) (w w2:World):Prop :=
 Below w.heap.size w w2/\w.heap.size+2<=w2.heap.size/\∃ ts v,lexM s=.ok ts/\w2.heap[w.heap.size+1]? = some (.cells #[v] 46 (0,0))/\w2.ownsRow w.heap.size 56 4 v ts.length (ts.flatMap tokEnc)/\(∀ g,v.ownBlock=some g->w.heap.size+4<=g)/\(∀ t ∈ ts,TokOk t)/\ts.length<=s.size
def LexEr (s:ByteArray) (w:World) (er:PErr) (w2:World):Prop:=Below w.heap.size w w2/\w.heap.size+2<=w2.heap.size/\lexM s=.error er
theorem lex_any {s:ByteArray} {w:World} (he:EnvL w) (hs:s.size<=4294967000):Calls Tryz.prog 12 #[.string s] w (LexPost s w):=by
 obtain ⟨Pst,hPst⟩:∃ Pst,Pst=LexPost s w:=⟨_,rfl⟩
 have HPST:=hid hPst
 rw [<- hPst]
 obtain ⟨W1,hW1⟩:∃ W,w.alloc (.cells #[.string s] 9)=W:=⟨_,rfl⟩
 obtain ⟨W2,hW2⟩:∃ W,W1.alloc (.cells #[.slice none 0 0] 46)=W:=⟨_,rfl⟩
 have h1s:W1.heap.size=w.heap.size+1:=by rw [<- hW1];simp
 have h2s:W2.heap.size=w.heap.size+2:=by rw [<- hW2];simp [h1s]
 have b2:Below w.heap.size w W2:=by rw [<- hW2,<- hW1];exact ((b0R).alloc (jR _) _).alloc (by simp) _
 have hqs:W2.heap[w.heap.size]? = some (.cells #[.string s] 9 (0,0)):=by
  rw [<- hW2,heap_alloc_old _ _ (by omega),<- hW1];exact heap_alloc_new _ _
 have hqo:W2.heap[w.heap.size+1]? = some (.cells #[.slice none 0 0] 46 (0,0)):=by
  rw [<- hW2,<- h1s];exact heap_alloc_new _ _
 have con:Calls Tryz.prog 15 #[.func (.func 27) #[] #[.pointer (some ⟨w.heap.size,0,none⟩),.pointer (some ⟨w.heap.size+1,0,none⟩)]] W2 (fun e w'=>CaughtPost W2 (LexOk s w) (LexEr s w) e w'):=by
  refine caught_any (enters_of Tryz.func27 (by kernel_rfl) rfl) fun w1 bW hsz hca=>?_
  have q1:=(bW.block _ (jB hqs)).trans hqs
  have q2:=(bW.block _ (jB hqo)).trans hqo
  have bw:Below w.heap.size w w1:=b2.trans (bW.mono (by omega))
  refine (lex1_any (he.below bw) (fun k hk=>?_) hs q1 q2 (by omega)).mono ?_
  · have:=he.lt
    rcases hk with rfl|rfl|rfl|rfl <;> omega
  · rintro e w2 ⟨g,h⟩
    have bg:Below w.heap.size w w2:=bw.trans (grown_below g (by omega) (by omega))
    have hs2:w.heap.size+2<=w2.heap.size:=by have:=g.size;omega
    refine ⟨⟨(g.block _ (by omega) (by simp;omega)).trans hca.1,(g.block _ (by omega) (by simp;omega)).trans hca.2⟩,?_⟩
    rcases h with ⟨ts,v,h1,h2,h3,h4,h5,h6⟩|⟨er,h1,h2⟩
    · exact Or.inl ⟨h2,bg,hs2,ts,v,h1,h3,owns_base h4 (by omega),fun g hg=>by have:=(h4.lt g hg).1;omega,h5,h6⟩
    · exact Or.inr ⟨er,h2,bg,hs2,h1⟩
 clear hPst he hs b2 hqs hqo
 go_enter Tryz.func12,Tryz.ntmps12
 go_wp2_with fail
 refine con.mono ?_
 rintro e w3 ⟨w2,hk,⟨rfl,hb,hs2,ts,v,hl,hz,ho,hg,ht,hn⟩|⟨er,rfl,hb,hs2,hl⟩⟩
 · have hz3:=(hk.block _ (by omega) (jB hz)).trans hz
   have z0:=jC hz3 0
   simp only [List.getElem?_toArray,List.getElem?_cons_zero] at z0
   have B3:=hid (hb.trans (hk.below (fun k hk=>by omega) (by omega)))
   have O3:=hid (show w3.ownsRow w.heap.size 56 4 v ts.length (ts.flatMap tokEnc) from by
    obtain ⟨hlen,⟨rfl,h0⟩|⟨g,cap,cur,rfl,h1,h2,h3⟩⟩:=ho
    · exact ⟨hlen,Or.inl ⟨rfl,h0⟩⟩
    · have hg2:=hg g rfl
      exact ⟨hlen,Or.inr ⟨g,cap,cur,rfl,h1,(hk.block _ (by omega) (jB h2)).trans h2,h3⟩⟩)
   have HL:=hid hl
   have HT:=hid ht
   clear con hk hb hz hz3 ho hg ht hl
   go_wp2_with fail
   rw [HPST.out]
   exact ⟨B3.out,Or.inl ⟨ts,v,HL.out,rfl,O3.out,HT.out,hn⟩⟩
 · have B3:=hid (hb.trans (hk.below (fun k hk=>by omega) (by omega)))
   have HL:=hid hl
   obtain ⟨e1,e2⟩:=er
   have hne:e2 ≠ 0:=lex_code hl
   have d0:(e2 == 0)=false:=by simpa using hne
   have d1:(e2 != 0)=true:=by simpa using hne
   clear con hk hb hl
   simp only
   go_wp2_with fail
   rw [HPST.out]
   exact ⟨B3.out,Or.inr ⟨(e1,e2),HL.out,rfl⟩⟩
end
end Go.Proofs.YtjcpccadmcglgaaGreatDoor
