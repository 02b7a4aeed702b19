/- fail and now. -/
import Derived.Test.YtjcpccadmcglgaaGreatDoorZK15
import Derived.Test.YtjcpccadmcglgaaGreatDoorZK19
import Derived.Deep.CutRange
import Derived.Test.YtjcpccadmcglgaaGreatDoorZK4
import Derived.Shelf.Strings.BuilderK
set_option linter.unusedVariables false
set_option linter.unusedSimpArgs false
set_option maxRecDepth 100000
set_option maxHeartbeats 64000000
namespace Go.Proofs.YtjcpccadmcglgaaGreatDoor
section
open Go.RowKit
theorem fail_any (i:Nat) (e:Int) (w:World):Calls Tryz.prog 19 #[.int .i64 i,.int .i64 e] w fun en w'=>en=trouble (i,e)/\w=w':=by
 go_enter Tryz.func19,Tryz.ntmps19
 go_wp2_with fail
 exact ⟨rfl,rfl,rfl⟩
theorem field_pos (k:Int) (p:Nat) (t:ByteArray) (n:Int) (w:World):(Instr.field 56 (.agg #[.int .i64 k,.int .i64 p,.string t,.int .i64 n]) 1).run Tryz.prog w=.ok (.int .i64 p) w:=by kernel_rfl
theorem PAt.open {X:Nat->Prop} {b en:Nat} {S:PS} {w:World} (h:PAt X b en S w):∃ a c L,w.heap[b]? = some (.cells (boxC (.slice a S.l.length c) en L S.s) 65 (0,0))/\SlV tokR (fun k=>k<b) w (.slice a S.l.length c) S.l/\LsAt X w L S.s:=by
 obtain ⟨tv,L,h1,h2,h3⟩:=h.box
 obtain ⟨a,c,rfl⟩:=h2.shape
 exact ⟨a,c,L,h1,h2,h3⟩
theorem RowAt.tok {p:Nat->Prop} {w:World} {b off:Nat} {L:List Tok} (h:RowAt tokR p w (some ⟨b,off,none⟩) L) (t:Nat) (ht:t<L.length) :
 w.cell? ⟨b,off+t * 4,none⟩=some (.int .i64 L[t].kind)/\w.cell? ⟨b,off+t * 4+1,none⟩=some (.int .i64 L[t].pos)/\w.cell? ⟨b,off+t * 4+2,none⟩=some (.string L[t].text)/\w.cell? ⟨b,off+t * 4+3,none⟩=some (.int .i64 L[t].n) :=
 ⟨h.flat t ht 0 (by omega),h.flat t ht 1 (by omega),h.flat t ht 2 (by omega),h.flat t ht 3 (by omega)⟩
theorem RowAt.drop {α:Type} {R:Rep α} {p:Nat->Prop} {w:World} {b off:Nat} {L:List α} (h:RowAt R p w (some ⟨b,off,none⟩) L) (m:Nat) (hm:m<=L.length):RowAt R p w (some ⟨b,off+m * R.sz,none⟩) (L.drop m):=by
 rcases h with h|⟨b',off',ha,hp,hb,h⟩
 · subst h;exact Or.inl (by simp)
 · simp only [Option.some.injEq,Addr.mk.injEq] at ha
   obtain ⟨rfl,rfl,_⟩:=ha
   have e1:(L.drop m).length * R.sz+m * R.sz=L.length * R.sz:=by rw [<- Nat.add_mul,List.length_drop];congr 1;omega
   refine Or.inr ⟨b,off+m * R.sz,rfl,hp,hb.sub (by omega) (by omega),fun t ht=>?_⟩
   rw [List.length_drop] at ht
   obtain ⟨cs,h1,h2⟩:=h (m+t) (by omega)
   refine ⟨cs,fun j hj=>?_,by rw [List.getElem_drop];exact h2⟩
   rw [<- h1 j hj,Nat.add_mul]
   congr 2
   omega
theorem PAt.setTok {X:Nat->Prop} {b en:Nat} {S:PS} {w:World} (h:PAt X b en S w) {v:Value} {l':List Tok} (hs:SlV tokR (fun k=>k<b) w v l') (hsub:∀ t ∈ l',t ∈ S.l) :
 PAt X b en { S with l:=l' } (w.setCell ⟨b,0,none⟩ v)/\Turn b w (w.setCell ⟨b,0,none⟩ v):=by
 obtain ⟨tv,L,h1,h2,h3⟩:=h.box
 have hb:Below b w (w.setCell ⟨b,0,none⟩ v):=(Below.refl b w).setCell (p:=⟨b,0,none⟩) (jR _) v
 have g:w.grownBy (w.setCell ⟨b,0,none⟩ v) (some b):=⟨hb.os,hb.tape,hb.output,hb.size,fun c _ hc=>Below.heap_setCell w ⟨b,0,none⟩ v c (fun e=>hc (by rw [e]))⟩
 exact ⟨⟨h.env.same fun k hk hl=>g.block k hl fun e=>by cases e;exact Nat.lt_irrefl _ (h.glob _ hk),h.glob,h.old,fun k hk=>by simpa using h.lt k hk,h.nb,⟨v,L,heap_setCell_same _ _ _ _ _ _ h1,hs.keep fun k hk hl=>g.block k hl fun e=>by cases e;exact Nat.lt_irrefl _ hk,h3.kept h1 (by decide) (by decide) (by decide) (by decide) (by decide) g⟩,fun t ht=>h.tok t (hsub t ht)⟩,turn_set w b v⟩
theorem PAt.taken {X:Nat->Prop} {b en:Nat} {S:PS} {w:World} (h:PAt X b en S w) {m n:Nat} (hn:n=S.l.length) (hm:m<=n) {a:Option Addr} {c:Nat} (hc:w.cell? ⟨b,0,none⟩=some (.slice a n c)) {v:Value}
 (hv:v=if c=m then .slice a (n - m) 0 else .slice (a.map fun x=>x.add (m * 4)) (n - m) (c - m)) :
 PAt X b en { S with l:=S.l.drop m } (w.setCell ⟨b,0,none⟩ v)/\Turn b w (w.setCell ⟨b,0,none⟩ v):=by
 subst hn
 obtain ⟨a',c',L,hb,hs,_⟩:=h.open
 have k0:=jC hb 0
 simp only [boxC,List.getElem?_toArray,List.getElem?_cons_zero] at k0
 rw [hc] at k0
 simp only [Option.some.injEq,Value.slice.injEq,true_and] at k0
 obtain ⟨rfl,rfl⟩:=k0
 obtain ⟨_,h1,h2,h3⟩:=hs.row
 have hlen:(S.l.drop m).length=S.l.length - m:=List.length_drop
 refine h.setTok ?_ fun t ht=>List.mem_of_mem_drop ht
 by_cases hcm:c=m
 · rw [if_pos hcm] at hv
   have h0:S.l.drop m=[]:=List.drop_eq_nil_of_le (by omega)
   rw [h0] at hlen ⊢
   exact ⟨a,0,by rw [hv,<- hlen],jR _,by simp,RowAt.nil⟩
 · rw [if_neg hcm] at hv
   refine ⟨_,c - m,by rw [hv,hlen],by omega,by omega,?_⟩
   cases a with
   | none =>
    rcases h3 with h3|⟨_,_,ha,_⟩
    · rw [h3,List.drop_nil];exact RowAt.nil
    · cases ha
   | some ad =>
    rcases h3 with h3|⟨b',off',ha,hrest⟩
    · rw [h3,List.drop_nil];exact RowAt.nil
    · have h4:RowAt tokR (fun k=>k<b) w (some ad) S.l:=Or.inr ⟨b',off',ha,hrest⟩
      simp only [Option.some.injEq] at ha
      subst ha
      have h5:=h4.drop m hm
      rw [Option.map_some,addr_add]
      exact h5
theorem now_any {X:Nat->Prop} {b en:Nat} {S:PS} {w:World} (h:PAt X b en S w):Calls Tryz.prog 17 #[.pointer (some ⟨b,0,none⟩)] w fun e w'=>e=.returned (nowT en S).enc/\Below w.heap.size w w':=by
 obtain ⟨a,c,L,hb,hs,_⟩:=h.open
 have k0:=jC hb 0
 have k1:=jC hb 1
 simp only [boxC,List.getElem?_toArray,List.getElem?_cons_zero,List.getElem?_cons_succ] at k0 k1
 have hlt:=h.lt_box
 obtain ⟨l,s,o⟩:=S
 simp only at *
 cases l with
 | nil =>
  clear hb hs h
  go_enter Tryz.func17,Tryz.ntmps17
  go_wp2_with fail
  exact bodyPost_ret (v:=.agg #[.int .i64 0,.int .i64 en,.string ⟨#[]⟩,.int .i64 0]) (by simp [results,Tryz.results17,go_sem]) rfl ⟨rfl,(b0R).alloc (jR _) _⟩
 | cons t r =>
  obtain ⟨_,_,_,hrow⟩:=hs.row
  obtain ⟨tb,tf,rfl,_,hlb⟩:=hrow.addr (by simp)
  obtain ⟨c0,c1,c2,c3⟩:=hrow.tok 0 (by simp)
  simp only [List.getElem_cons_zero,Nat.zero_mul,Nat.add_zero] at c0 c1 c2 c3
  obtain ⟨n,hn⟩:∃ n,n=(t :: r).length:=⟨_,rfl⟩
  rw [<- hn] at k0
  have hp:0<n:=by rw [hn];simp
  have hz:decide (n=0)=false:=decide_eq_false (by omega)
  clear hb hs h hrow hn
  go_enter Tryz.func17,Tryz.ntmps17
  go_wp2_with fail
  exact bodyPost_ret (v:=t.enc) (by simp [results,Tryz.results17,go_sem,Tok.enc]) rfl ⟨rfl,(b0R).alloc (jR _) _⟩
end
open Go.Lib (hid)
section
open Go.RowKit
theorem isB_nil {xs:List ByteArray} {l:List Tok} {k:Nat} (hk:k<xs.length) (hl:l.length<=k):isB (xs.drop k) (l.drop k)=false:=by
 rw [List.drop_eq_getElem_cons hk,List.drop_eq_nil_of_le hl];rfl
theorem isB_cons {xs:List ByteArray} {l:List Tok} {k:Nat} (hk:k<xs.length) (hl:k<l.length):isB (xs.drop k) (l.drop k)=(wordB xs[k] l[k] && isB (xs.drop (k+1)) (l.drop (k+1))):=by
 rw [List.drop_eq_getElem_cons hk,List.drop_eq_getElem_cons hl];rfl
theorem is_any {X p:Nat->Prop} {b en:Nat} {S:PS} {w:World} {al:Option Addr} {cl:Nat} {xs:List ByteArray} (h:PAt X b en S w) (hl:SlV strF p w (.slice al xs.length cl) xs):Calls Tryz.prog 92 #[.pointer (some ⟨b,0,none⟩),.slice al xs.length cl] w fun e w'=>e=.returned (.bool (isB xs S.l))/\w=w':=by
 obtain ⟨a,c,L,hb,hs,_⟩:=h.open
 have k0:=jC hb 0
 simp only [boxC,List.getElem?_toArray,List.getElem?_cons_zero] at k0
 obtain ⟨l,s,o⟩:=S
 simp only at *
 obtain ⟨n,hn⟩:∃ n,n=l.length:=⟨_,rfl⟩
 obtain ⟨m,hm⟩:∃ m,m=xs.length:=⟨_,rfl⟩
 obtain ⟨_,_,hns,hrow⟩:=hs.row
 obtain ⟨_,_,hms,hxr⟩:=hl.row
 rw [<- hn] at k0 hns
 rw [<- hm] at hms ⊢
 have HN:=hid hn
 have HM:=hid hm
 have HR:=hid hrow
 have HX:=hid hxr
 clear hb hs h hl hn hm hrow hxr
 go_enter Tryz.func92,Tryz.ntmps92
 go_wp2_with fail
 go_loopw [9] (fun ii wr=>∃ k:Nat,k<=m/\ii=.int .i64 k/\wr=w/\Hid (isB xs l=isB (xs.drop k) (l.drop k))) (fun ii _=>m - (intOf ii).toNat)
 case atStart=>exact ⟨0,Nat.zero_le _,rfl,rfl,rfl⟩
 case round =>
  obtain ⟨k,hk,rfl,rfl,HF⟩:=hrel
  by_cases hlt:k<m
  · have hkx:k<xs.length:=by rw [<- HM.out];exact hlt
    obtain ⟨xb,xo,rfl,_,hlx⟩:=HX.out.addr (by intro e;rw [e] at hkx;cases hkx)
    have cx:=RowAt.flat HX.out k hkx 0 (by omega)
    simp only [strEnc,List.getElem?_cons_zero,Nat.mul_one,Nat.add_zero] at cx
    by_cases hnl:n<=k
    · have d1:decide (n<=k)=true:=decide_eq_true hnl
      go_wp2_with fail
      go_ret
      exact ⟨by rw [HF.out,isB_nil hkx (by rw [<- HN.out];exact hnl)];rfl,rfl⟩
    · have d1:decide (n<=k)=false:=decide_eq_false hnl
      have hkl:k<l.length:=by rw [<- HN.out];omega
      obtain ⟨tb,tf,rfl,_,hlb⟩:=HR.out.addr (by intro e;rw [e] at hkl;cases hkl)
      obtain ⟨c0,_,c2,_⟩:=HR.out.tok k hkl
      have HE:=hid (isB_cons hkx hkl)
      have hkn:k<n:=by omega
      obtain ⟨t,ht⟩:∃ t,t=l[k]:=⟨_,rfl⟩
      obtain ⟨x,hx⟩:∃ x,x=xs[k]:=⟨_,rfl⟩
      rw [<- ht,<- hx] at HE
      rw [<- ht] at c0 c2
      rw [<- hx] at cx
      clear ht hx
      obtain ⟨tk,tp,tt,tn⟩:=t
      simp only at c0 c2
      by_cases hw:(tk=1 \/ tk=4)/\tt=x
      · obtain ⟨hw,rfl⟩:=hw
        have HW:=hid (show isB xs l=isB (xs.drop (k+1)) (l.drop (k+1)) by
         rw [HF.out,HE.out]
         rcases hw with rfl|rfl <;> simp [wordB])
        rcases hw with rfl|rfl
        · go_wp2_with fail
          exact ⟨⟨k+1,by omega,by rw [Int.natCast_add];rfl,trivial,HW⟩,by show m - (((k:Int)+1).toNat)<m - ((k:Int).toNat);omega⟩
        · go_wp2_with fail
          exact ⟨⟨k+1,by omega,by rw [Int.natCast_add];rfl,trivial,HW⟩,by show m - (((k:Int)+1).toNat)<m - ((k:Int).toNat);omega⟩
      · have HW:=hid (show isB xs l=false by
         rw [HF.out,HE.out]
         simp only [wordB,Bool.and_eq_false_iff]
         left
         by_cases h1:tt=x
         · left
           simp only [Bool.or_eq_false_iff,beq_eq_false_iff_ne]
           exact ⟨fun e=>hw ⟨Or.inl e,h1⟩,fun e=>hw ⟨Or.inr e,h1⟩⟩
         · right;exact decide_eq_false h1)
        by_cases h1:tk=1
        · subst h1
          have e1:(tt.toList == x.toList)=false:=(Lib.bytes_beq_false_iff tt x).2 fun e=>hw ⟨Or.inl rfl,e⟩
          go_wp2_with fail
          go_ret
          exact ⟨by rw [HW.out];rfl,rfl⟩
        · by_cases h4:tk=4
          · subst h4
            have e1:(tt.toList == x.toList)=false:=(Lib.bytes_beq_false_iff tt x).2 fun e=>hw ⟨Or.inr rfl,e⟩
            go_wp2_with fail
            go_ret
            exact ⟨by rw [HW.out];rfl,rfl⟩
          · go_wp2_with fail
            go_ret
            exact ⟨by rw [HW.out];rfl,rfl⟩
  · go_wp2_with fail
    go_ret
    refine ⟨?_,rfl⟩
    have hk2:k=xs.length:=by rw [<- HM.out];omega
    rw [HF.out,hk2,List.drop_length]
    rfl
end
section
open Go.RowKit
theorem isB_len:∀ {xs:List ByteArray} {l:List Tok},isB xs l=true->xs.length<=l.length
 | [],_,_=>Nat.zero_le _
 | _ :: _,[],h=>by simp [isB] at h
 | _ :: xs,_ :: ts,h=>by
  simp only [isB,Bool.and_eq_true] at h
  have:=isB_len h.2
  simp only [List.length_cons]
  omega
theorem may_hit {xs:List ByteArray} {S:PS} (h:isB xs S.l=true):mayM xs S=.ok (true,{ S with l:=S.l.drop xs.length }):=by unfold mayM;rw [if_pos h]
theorem may_miss {xs:List ByteArray} {S:PS} (h:isB xs S.l=false):mayM xs S=.ok (false,S):=by unfold mayM;rw [if_neg (by rw [h];exact Bool.false_ne_true)]
theorem may_any {X p:Nat->Prop} {b en:Nat} {S:PS} {w:World} {al:Option Addr} {cl:Nat} {xs:List ByteArray} (h:PAt X b en S w) (hl:SlV strF p w (.slice al xs.length cl) xs):Calls Tryz.prog 78 #[.pointer (some ⟨b,0,none⟩),.slice al xs.length cl] w fun e w'=>Leaf X b en Value.bool w (mayM xs S) e w':=by
 have con:=is_any h hl
 have H:=hid h
 obtain ⟨a,c,L,hb,hs,_⟩:=h.open
 have k0:=jC hb 0
 simp only [boxC,List.getElem?_toArray,List.getElem?_cons_zero] at k0
 obtain ⟨l,s,o⟩:=S
 simp only at *
 cases hi:isB xs l with
 | false =>
  rw [hi] at con
  clear hb hs h hl
  go_enter Tryz.func78,Tryz.ntmps78
  go_wp2_with fail
  refine con.mono ?_
  rintro e w1 ⟨rfl,rfl⟩
  go_wp2_with fail
  go_ret
  exact ⟨Turn.refl _ _,Or.inl ⟨false,_,may_miss hi,rfl,H.out⟩⟩
 | true =>
  rw [hi] at con
  have hlen:=isB_len hi
  obtain ⟨_,hc,hns,hrow⟩:=hs.row
  obtain ⟨n,hn⟩:∃ n,n=l.length:=⟨_,rfl⟩
  obtain ⟨m,hm⟩:∃ m,m=xs.length:=⟨_,rfl⟩
  rw [<- hn] at k0 hlen hc hns
  rw [<- hm] at hlen con ⊢
  have hz:¬ (m:Int)<0:=by omega
  have hf:=free_of hb 0
  have FIN:=hid (fun v hv=>H.out.taken (m:=m) (n:=n) hn (by omega) k0 (v:=v) hv)
  have HI:=hid hi
  have HM:=hid hm
  clear hb hs h hl hrow hn hm hi
  by_cases hcm:c=m
  · go_enter Tryz.func78,Tryz.ntmps78
    go_wp2_with fail
    refine con.mono ?_
    rintro e w1 ⟨rfl,rfl⟩
    clear con
    go_wp2_with fail
    go_ret
    obtain ⟨h1,h2⟩:=FIN.out (.slice a (n - m) 0) (if_pos hcm).symm
    have hr:=may_hit (S:=⟨l,s,o⟩) HI.out
    rw [<- HM.out] at hr
    exact ⟨h2,Or.inl ⟨true,_,hr,rfl,h1⟩⟩
  · go_enter Tryz.func78,Tryz.ntmps78
    go_wp2_with fail
    refine con.mono ?_
    rintro e w1 ⟨rfl,rfl⟩
    clear con
    go_wp2_with fail
    go_ret
    obtain ⟨h1,h2⟩:=FIN.out (.slice (a.map fun x=>x.add (m * 4)) (n - m) (c - m)) (if_neg hcm).symm
    have hr:=may_hit (S:=⟨l,s,o⟩) HI.out
    rw [<- HM.out] at hr
    exact ⟨h2,Or.inl ⟨true,_,hr,rfl,h1⟩⟩
end
section
open Go.RowKit
theorem words_at (w:World) (xs:List ByteArray) (h0:xs.length<=1000):SlV strF (fun k=>k=w.heap.size) (w.alloc (.cells (xs.map Value.string).toArray 9)) (.slice (some ⟨w.heap.size,0,none⟩) xs.length xs.length) xs:=by
 have hb:(w.alloc (.cells (xs.map Value.string).toArray 9)).heap[w.heap.size]? = some (.cells (xs.map Value.string).toArray 9 (0,0)):=heap_alloc_new _ _
 refine ⟨_,_,rfl,jR _,by omega,Or.inr ⟨_,_,rfl,rfl,Live.of_block hb,fun t ht=>⟨strEnc xs[t],fun j hj=>?_,rfl⟩⟩⟩
 obtain rfl:j=0:=by have:j<1:=hj;omega
 rw [jC hb]
 simp only [strF,flatR,Nat.mul_one,Nat.zero_add,Nat.add_zero,List.getElem?_toArray,List.getElem?_map,List.getElem?_eq_getElem ht,Option.map_some,strEnc,List.getElem?_cons_zero]
theorem must_step {en:Nat} {xs:List ByteArray} {S:PS} {k:Nat} (hk:k<xs.length):mustM en (xs.drop k) S=if isB [xs[k]] S.l then mustM en (xs.drop (k+1)) { S with l:=S.l.tail } else .error ((nowT en S).pos,60):=by
 rw [List.drop_eq_getElem_cons hk];rfl
theorem must_any {X p:Nat->Prop} {b en:Nat} {S:PS} {w:World} {al:Option Addr} {cl:Nat} {xs:List ByteArray} (h:PAt X b en S w) (hl:SlV strF p w (.slice al xs.length cl) xs) (hp:∀ k,p k->k ≠ b):Calls Tryz.prog 80 #[.pointer (some ⟨b,0,none⟩),.slice al xs.length cl] w fun e w'=>LeafU X b en w (mustM en xs S) e w':=by
 obtain ⟨m,hm⟩:∃ m,m=xs.length:=⟨_,rfl⟩
 obtain ⟨_,_,hms,hxr⟩:=hl.row
 rw [<- hm] at hms ⊢
 have HM:=hid hm
 have HX:=hid hxr
 have H:=hid h
 obtain ⟨Pst,hPst⟩:∃ Pst,Pst=LeafU X b en w (mustM en xs S):=⟨_,rfl⟩
 have HPST:=hid hPst
 rw [<- hPst]
 clear hl hxr hm h hPst
 go_enter Tryz.func80,Tryz.ntmps80
 go_wp2_with fail
 go_loopw [8] (fun ii wr=>∃ (k:Nat) (T:PS),k<=m/\ii=.int .i64 k/\Hid (Turn b w wr)/\Hid (PAt X b en T wr)/\Hid (mustM en xs S=mustM en (xs.drop k) T)) (fun ii _=>m - (intOf ii).toNat)
 case atStart=>exact ⟨0,S,Nat.zero_le _,rfl,Turn.refl _ _,H,rfl⟩
 case round =>
  obtain ⟨k,T,hk,rfl,HG,HP,HE⟩:=hrel
  by_cases hlt:k<m
  · have hkx:k<xs.length:=by rw [<- HM.out];exact hlt
    have hXr:=HX.out.keep (w':=wr) (fun i hi hl=>HG.out.g.block i hl (by simpa using hp i hi))
    obtain ⟨xb,xo,rfl,_,hlx⟩:=hXr.addr (by intro e;rw [e] at hkx;cases hkx)
    have cx:=RowAt.flat hXr k hkx 0 (by omega)
    simp only [strEnc,List.getElem?_cons_zero,Nat.mul_one,Nat.add_zero] at cx
    have HS:=hid (must_step (en:=en) (S:=T) hkx)
    obtain ⟨x,hx⟩:∃ x,x=xs[k]:=⟨_,rfl⟩
    rw [<- hx] at HS cx
    have con:=may_any (X:=X) (b:=b) (en:=en) (S:=T) (HP.out.below ((b0R).alloc (jR _) (.cells #[.string x] 9))) (words_at wr [x] (by simp))
    clear hXr hx
    go_wp2_with fail
    refine con.mono ?_
    rintro e w1 ⟨g1,h1⟩
    have HG1:=hid (HG.out.trans ((turn_below HP.out.lt_box ((b0R).alloc (jR _) (.cells #[.string x] 9))).trans g1))
    clear con g1
    cases hi:isB [x] T.l with
    | true =>
     rw [may_hit hi] at h1
     obtain ⟨_,_,h1,rfl,p1⟩|⟨_,h1,_⟩:=h1
     · cases h1
       have HP1:=hid p1
       rw [hi,if_pos rfl] at HS
       clear p1 hi
       go_wp2_with fail
       refine ⟨⟨k+1,_,by omega,by rw [Int.natCast_add];rfl,HG1,HP1,?_⟩,by show m - (((k:Int)+1).toNat)<m - ((k:Int).toNat);omega⟩
       show mustM en xs S=_
       rw [HE.out,HS.out]
       simp
     · cases h1
    | false =>
     rw [may_miss hi] at h1
     obtain ⟨_,_,h1,rfl,p1⟩|⟨_,h1,_⟩:=h1
     · cases h1
       rw [hi,if_neg Bool.false_ne_true] at HS
       have con:=now_any p1
       have HL1:=hid p1.lt_box
       obtain ⟨t,ht⟩:∃ t,t=nowT en T:=⟨_,rfl⟩
       rw [<- ht] at con HS
       obtain ⟨tk,tp,tt,tn⟩:=t
       simp only [Tok.enc] at con HS
       clear p1 hi ht
       go_wp2_with fail
       refine con.mono ?_
       rintro e w2 ⟨rfl,b2⟩
       have HG2:=hid (HG1.out.trans (turn_below HL1.out b2))
       have con2:=fail_any tp 60 w2
       have hfd:=field_pos tk tp tt tn w2
       clear con b2
       go_wp2_with fail
       refine con2.mono ?_
       rintro e w3 ⟨rfl,rfl⟩
       go_wp2_with fail
       refine ⟨rfl,?_⟩
       show Pst _ _
       rw [HPST.out]
       exact ⟨HG2.out,Or.inr ⟨_,HE.out.trans HS.out,rfl⟩⟩
     · cases h1
  · go_wp2_with fail
    go_end0
    have hk2:k=xs.length:=by rw [<- HM.out];omega
    rw [HPST.out]
    refine ⟨HG.out,Or.inl ⟨T,?_,rfl,HP.out⟩⟩
    rw [HE.out,hk2,List.drop_length]
    rfl
end
section
open Go.RowKit
theorem contains_infix (x:List UInt8):∀ L:List UInt8,Lib.contains L x=infixB x L
 | []=>by
  unfold Lib.contains Lib.index infixB
  cases x <;> simp
 | c :: r=>by
  have ih:=contains_infix x r
  have hg:=Lib.index_ge r x
  unfold Lib.contains at ih ⊢
  unfold Lib.index infixB
  by_cases h:x.isPrefixOf (c :: r)=true
  · simp [h]
  · rw [if_neg h,<- ih]
    simp only [Bool.not_eq_true] at h
    rw [h,Bool.false_or]
    by_cases h2:Lib.index r x=-1
    · simp [h2]
    · have h3:(Lib.index r x == -1)=false:=by simpa using h2
      rw [h3]
      simp only [Bool.false_eq_true,if_false,decide_eq_decide]
      omega
theorem named_any (t:Tok) {w:World} (he:EnvL w) (hs:t.text.size<=4294967000):Calls Tryz.prog 82 #[t.enc] w fun e w'=>e=.returned (.bool (namedT t))/\Below w.heap.size w w':=by
 obtain ⟨tk,tp,tt,tn⟩:=t
 obtain ⟨m,hm⟩:=he.max
 have hb:Below w.heap.size w (w.alloc (.cells #[.int .i64 tk,.int .i64 tp,.string tt,.int .i64 tn] 56)):=(b0R).alloc (jR _) _
 have hm2:=(hb.cell (p:=⟨1,0,none⟩) he.lt.1).trans hm
 have HB:=hid hb
 have z1:¬ 9223372036854775807<1+tt.size:=by simp only at hs;omega
 have z2:¬ 9223372036854775807<1+tt.size+1:=by simp only at hs;omega
 clear hb hm
 unfold Tok.enc
 by_cases h1:tk=1
 · subst h1
   obtain ⟨q,hq⟩:∃ q,q=infixB (⟨#[32]⟩ ++ tt ++ ⟨#[32]⟩:ByteArray).data.toList keysS:=⟨_,rfl⟩
   have HQ:=hid (show namedT ⟨1,tp,tt,tn⟩=!q by
    rw [hq]
    unfold namedT
    simp)
   have con:∀ s:ByteArray,s.data.toList=keysS->Calls Tryz.prog 124 #[.string s,.string (⟨#[32]⟩ ++ tt ++ ⟨#[32]⟩)] (w.alloc (.cells #[.int .i64 1,.int .i64 tp,.string tt,.int .i64 tn] 56)) fun e w'=>e=.returned (.bool q)/\w.alloc (.cells #[.int .i64 1,.int .i64 tp,.string tt,.int .i64 tn] 56)=w':=fun s hs2=>by
    refine (Tryz.strings_Contains s _ m _ ?_ hm2).mono ?_
    · have e1:s.size=keysS.length:=by rw [<- hs2,Array.length_toList];rfl
      rw [e1]
      decide
    · rintro e w' ⟨h1,h2⟩
      rw [hs2,contains_infix] at h1
      exact ⟨by rw [h1,hq],h2.symm⟩
   have CON:=hid con
   clear hq con
   go_enter Tryz.func82,Tryz.ntmps82
   go_wp2_with fail
   refine (CON.out _ rfl).mono ?_
   rintro e w1 ⟨rfl,rfl⟩
   go_wp2_with fail
   go_ret
   exact ⟨by rw [HQ.out];rfl,HB.out⟩
 · have e1:(tk == 1)=false:=by simpa using h1
   go_enter Tryz.func82,Tryz.ntmps82
   go_wp2_with fail
   go_ret
   exact ⟨by unfold namedT;simp only [e1,Bool.false_and];rfl,HB.out⟩
end
section
open Go.RowKit
theorem beq_lit (s:ByteArray) (L:List UInt8):(s.toList == L)=decide (s=⟨⟨L⟩⟩):=by
 obtain ⟨⟨s⟩⟩:=s
 rw [toList_data]
 by_cases h:s=L
 · subst h;simp
 · simp [h]
theorem valued_any (t:Tok) {w:World}:Calls Tryz.prog 85 #[t.enc] w fun e w'=>e=.returned (.bool (valuedT t))/\Below w.heap.size w w':=by
 obtain ⟨tk,tp,tt,tn⟩:=t
 have HB:=hid (show Below w.heap.size w (w.alloc (.cells #[.int .i64 tk,.int .i64 tp,.string tt,.int .i64 tn] 56)) from (b0R).alloc (jR _) _)
 unfold Tok.enc
 by_cases h2:tk=2
 · subst h2
   go_enter Tryz.func85,Tryz.ntmps85
   go_wp2_with fail
   go_ret
   exact ⟨rfl,HB.out⟩
 have e2:(tk == 2)=false:=by simpa using h2
 by_cases h3:tk=3
 · subst h3
   go_enter Tryz.func85,Tryz.ntmps85
   go_wp2_with fail
   go_ret
   exact ⟨rfl,HB.out⟩
 have e3:(tk == 3)=false:=by simpa using h3
 by_cases h1:tk=1
 · subst h1
   go_enter Tryz.func85,Tryz.ntmps85
   go_wp2_with fail
   go_ret
   refine ⟨?_,HB.out⟩
   show Ending.returned (.bool (tt.toList == [110,117,108,108]))=_
   rw [beq_lit]
   rfl
 have e1:(tk == 1)=false:=by simpa using h1
 go_enter Tryz.func85,Tryz.ntmps85
 go_wp2_with fail
 go_ret
 exact ⟨by simp only [valuedT,e1,e2,e3];rfl,HB.out⟩
theorem now_ok {X:Nat->Prop} {b en:Nat} {S:PS} {w:World} (h:PAt X b en S w):(nowT en S).text.size<=4294967000/\-9223372036854775808<=(nowT en S).n/\(nowT en S).n<=9223372036854775807:=by
 obtain ⟨l,s,o⟩:=S
 cases l with
 | nil=>exact ⟨by show (0:Nat)<=_;omega,by show (-9223372036854775808:Int)<=0;omega,by show (0:Int)<=_;omega⟩
 | cons t r =>
  have:=h.tok t List.mem_cons_self
  exact ⟨this.size,this.lo,this.hi⟩
theorem now_len {en:Nat} {S:PS} (h:(nowT en S).kind ≠ 0):1<=S.l.length:=by
 obtain ⟨l,s,o⟩:=S
 cases l with
 | nil=>exact absurd rfl h
 | cons t r=>simp
theorem tail_drop (S:PS):({ S with l:=S.l.drop 1 }:PS)={ S with l:=S.l.tail }:=by rw [List.drop_one]
theorem PAt.one {X:Nat->Prop} {b en:Nat} {S:PS} {w:World} (h:PAt X b en S w) (hl:1<=S.l.length):∃ (a:Option Addr) (n c:Nat),w.cell? ⟨b,0,none⟩=some (.slice a n c)/\w.frozen? ⟨b,0,none⟩=false/\1<=n/\n<=c/\n<=140737488355328 /\
 ∀ v,v=(if c=1 then .slice a (n - 1) 0 else .slice (a.map fun x=>x.add (1 * 4)) (n - 1) (c - 1))->PAt X b en { S with l:=S.l.tail } (w.setCell ⟨b,0,none⟩ v)/\Turn b w (w.setCell ⟨b,0,none⟩ v):=by
 obtain ⟨a,c,L,hb,hs,_⟩:=h.open
 have k0:=jC hb 0
 simp only [boxC,List.getElem?_toArray,List.getElem?_cons_zero] at k0
 obtain ⟨_,h1,h2,_⟩:=hs.row
 refine ⟨a,S.l.length,c,k0,free_of hb 0,hl,h1,h2,fun v hv=>?_⟩
 have:=h.taken (m:=1) (n:=S.l.length) rfl hl k0 hv
 rwa [tail_drop] at this
theorem name_any {X:Nat->Prop} {b en:Nat} {S:PS} {w:World} (h:PAt X b en S w):Calls Tryz.prog 79 #[.pointer (some ⟨b,0,none⟩)] w fun e w'=>Leaf X b en Value.string w (nameM en S) e w':=by
 have con:=now_any h
 obtain ⟨hsz,_,_⟩:=now_ok h
 obtain ⟨Pst,hPst⟩:∃ Pst,Pst=Leaf X b en Value.string w (nameM en S):=⟨_,rfl⟩
 have HPST:=hid hPst
 rw [<- hPst]
 obtain ⟨t,ht⟩:∃ t,t=nowT en S:=⟨_,rfl⟩
 have HT:=hid ht
 rw [<- ht] at con hsz
 have HE:=hid h.env
 have HP:=hid h
 obtain ⟨tk,tp,tt,tn⟩:=t
 simp only [Tok.enc] at con
 simp only at hsz
 clear h ht hPst
 go_enter Tryz.func79,Tryz.ntmps79
 go_wp2_with fail
 refine con.mono ?_
 rintro e w1 ⟨rfl,b1⟩
 have B1:=hid b1
 have ba:Below w1.heap.size w1 (w1.alloc (.cells #[.int .i64 tk,.int .i64 tp,.string tt,.int .i64 tn] 56)):=(b0R).alloc (jR _) _
 have con1:=named_any ⟨tk,tp,tt,tn⟩ ((HE.out.below b1).below ba) hsz
 have hq:=heap_alloc_new w1 (.cells #[.int .i64 tk,.int .i64 tp,.string tt,.int .i64 tn] 56)
 have BA:=hid ba
 have HQ:=hid hq
 simp only [Tok.enc] at con1
 clear con b1 ba hq
 go_wp2_with fail
 refine con1.mono ?_
 rintro e w2 ⟨rfl,b2⟩
 have B2:=hid ((B1.out.trans (BA.out.mono B1.out.size)).trans (b2.mono (Nat.le_trans B1.out.size BA.out.size)))
 have hq2:=(b2.block _ (jB HQ.out)).trans HQ.out
 have k1:=jC hq2 1
 have k2:=jC hq2 2
 simp only [gT,gZ,gS] at k1 k2
 have P2:=hid (HP.out.below (B2.out.mono (jR _)))
 have G2:=hid (turn_below HP.out.lt_box B2.out)
 clear con1 b2 hq2
 cases hn:namedT ⟨tk,tp,tt,tn⟩ with
 | false =>
  have con2:=fail_any tp 60 w2
  have HR:=hid (show nameM en S=.error (tp,60) by unfold nameM;rw [<- HT.out,hn];rfl)
  clear hn
  go_wp2_with fail
  refine con2.mono ?_
  rintro e w3 ⟨rfl,rfl⟩
  go_wp2_with fail
  refine ⟨rfl,?_⟩
  show Pst _ _
  rw [HPST.out]
  exact ⟨G2.out,Or.inr ⟨_,HR.out,rfl⟩⟩
 | true =>
  have hlen:=now_len (en:=en) (S:=S) (by
   rw [<- HT.out]
   unfold namedT at hn
   rw [Bool.and_eq_true,beq_iff_eq] at hn
   have h1:tk=1:=hn.1
   show tk ≠ 0
   rw [h1];decide)
  by_cases h12:12<tt.size
  · have con2:=fail_any tp 50 w2
    have HR:=hid (show nameM en S=.error (tp,50) by unfold nameM;rw [<- HT.out,hn,if_pos rfl,if_pos h12])
    have d1:decide (12<tt.size)=true:=decide_eq_true h12
    clear hn
    go_wp2_with fail
    refine con2.mono ?_
    rintro e w3 ⟨rfl,rfl⟩
    go_wp2_with fail
    refine ⟨rfl,?_⟩
    show Pst _ _
    rw [HPST.out]
    exact ⟨G2.out,Or.inr ⟨_,HR.out,rfl⟩⟩
  · have HR:=hid (show nameM en S=.ok (tt,{ S with l:=S.l.tail }) by unfold nameM;rw [<- HT.out,hn,if_pos rfl,if_neg h12])
    have d1:decide (12<tt.size)=false:=decide_eq_false h12
    obtain ⟨a,n,c,k0,hf,hn1,hnc,hns,hfin⟩:=P2.out.one hlen
    have FIN:=hid hfin
    have k2':∀ v,(w2.setCell ⟨b,0,none⟩ v).cell? ⟨w1.heap.size,2,none⟩=some (.string tt):=fun v=>by
     have hne:w1.heap.size ≠ b:=fun e=>by have:=HP.out.lt_box;have:=B1.out.size;omega
     exact (World.cell?_of_block (w:=w2) (heap_setCell_other _ _ _ _ (by exact hne))).trans k2
    clear hn hfin
    by_cases hc:c=1
    · go_wp2_with fail
      obtain ⟨h1,h2⟩:=FIN.out (.slice a (n - 1) 0) (if_pos hc).symm
      rw [HPST.out]
      exact ⟨G2.out.trans h2,Or.inl ⟨_,_,HR.out,rfl,h1⟩⟩
    · go_wp2_with fail
      obtain ⟨h1,h2⟩:=FIN.out (.slice (a.map fun x=>x.add (1 * 4)) (n - 1) (c - 1)) (if_neg hc).symm
      rw [HPST.out]
      exact ⟨G2.out.trans h2,Or.inl ⟨_,_,HR.out,rfl,h1⟩⟩
end
section
open Go.RowKit
theorem number_any {X:Nat->Prop} {b en:Nat} {S:PS} {w:World} (h:PAt X b en S w):Calls Tryz.prog 89 #[.pointer (some ⟨b,0,none⟩)] w fun e w'=>Leaf X b en (Value.int .i64) w (numberM en S) e w':=by
 have con:=now_any h
 obtain ⟨Pst,hPst⟩:∃ Pst,Pst=Leaf X b en (Value.int .i64) w (numberM en S):=⟨_,rfl⟩
 have HPST:=hid hPst
 rw [<- hPst]
 obtain ⟨t,ht⟩:∃ t,t=nowT en S:=⟨_,rfl⟩
 have HT:=hid ht
 rw [<- ht] at con
 have HP:=hid h
 obtain ⟨tk,tp,tt,tn⟩:=t
 simp only [Tok.enc] at con
 clear h ht hPst
 go_enter Tryz.func89,Tryz.ntmps89
 go_wp2_with fail
 refine con.mono ?_
 rintro e w1 ⟨rfl,b1⟩
 have ba:Below w.heap.size w (w1.alloc (.cells #[.int .i64 tk,.int .i64 tp,.string tt,.int .i64 tn] 56)):=b1.trans (((b0R).alloc (jR _) _).mono b1.size)
 have hq:=heap_alloc_new w1 (.cells #[.int .i64 tk,.int .i64 tp,.string tt,.int .i64 tn] 56)
 have HLT:=hid (show w1.heap.size ≠ b from fun e=>by have:=HP.out.lt_box;have:=b1.size;omega)
 have P2:=hid (HP.out.below ba)
 have G2:=hid (turn_below HP.out.lt_box ba)
 obtain ⟨W,hW⟩:∃ W,(w1.alloc (.cells #[.int .i64 tk,.int .i64 tp,.string tt,.int .i64 tn] 56))=W:=⟨_,rfl⟩
 rw [hW] at hq P2 G2
 have kk:=jC hq 0
 have k1:=jC hq 1
 have k3:=jC hq 3
 simp only [gT,gZ,gS] at kk k1 k3
 clear con b1 ba hq
 by_cases hk:tk=2
 · subst hk
   have hlen:=now_len (en:=en) (S:=S) (by rw [<- HT.out];show (2:Int) ≠ 0;decide)
   have HR:=hid (show numberM en S=.ok (tn,{ S with l:=S.l.tail }) by unfold numberM;rw [<- HT.out];rfl)
   obtain ⟨a,n,c,k0,hf,hn1,hnc,hns,hfin⟩:=P2.out.one hlen
   have FIN:=hid hfin
   have k3':∀ v,(W.setCell ⟨b,0,none⟩ v).cell? ⟨w1.heap.size,3,none⟩=some (.int .i64 tn):=fun v =>
    (World.cell?_of_block (w:=W) (heap_setCell_other _ _ _ _ (by exact HLT.out))).trans k3
   clear hfin
   by_cases hc:c=1
   · go_wp2_with fail
     obtain ⟨h1,h2⟩:=FIN.out (.slice a (n - 1) 0) (if_pos hc).symm
     rw [HPST.out]
     exact ⟨G2.out.trans h2,Or.inl ⟨_,_,HR.out,rfl,h1⟩⟩
   · go_wp2_with fail
     obtain ⟨h1,h2⟩:=FIN.out (.slice (a.map fun x=>x.add (1 * 4)) (n - 1) (c - 1)) (if_neg hc).symm
     rw [HPST.out]
     exact ⟨G2.out.trans h2,Or.inl ⟨_,_,HR.out,rfl,h1⟩⟩
 · have e2:(tk != 2)=true:=by simpa using hk
   have e3:(tk == 2)=false:=by simpa using hk
   have HR:=hid (show numberM en S=.error (tp,60) by unfold numberM;rw [<- HT.out];simp only [e3];rfl)
   have con2:=fail_any tp 60 W
   clear e3
   go_wp2_with fail
   refine con2.mono ?_
   rintro e w3 ⟨rfl,rfl⟩
   go_wp2_with fail
   refine ⟨rfl,?_⟩
   show Pst _ _
   rw [HPST.out]
   exact ⟨G2.out,Or.inr ⟨_,HR.out,rfl⟩⟩
theorem grown_set3 (w:World) (q:Nat) (x y z:Value):w.grownBy (((w.setCell ⟨q,0,none⟩ x).setCell ⟨q,1,none⟩ y).setCell ⟨q,2,none⟩ z) (some q):=((grown_set _ _ _ _).trans (grown_set _ _ _ _)).trans (grown_set _ _ _ _)
theorem heap_set3 {w:World} {q:Nat} {u0 u1 u2:Value} {T:TypeId} (h:w.heap[q]? = some (.cells #[u0,u1,u2] T (0,0))) (x y z:Value) :
 (((w.setCell ⟨q,0,none⟩ x).setCell ⟨q,1,none⟩ y).setCell ⟨q,2,none⟩ z).heap[q]? = some (.cells #[x,y,z] T (0,0)) :=
 (heap_setCell_same _ _ _ _ _ _ ((heap_setCell_same _ _ _ _ _ _ ((heap_setCell_same _ _ _ _ _ _ h).trans rfl)).trans rfl)).trans rfl
theorem value_end {X Y:Nat->Prop} {b en:Nat} {S T:PS} {w w2:World} {q:Nat} {x y z:Value} {v:Val} {e:Ending} (hG:Turn b w w2) (hP:PAt Y b en T w2) (hXY:∀ k,X k->Y k) (hX:∀ k,k<b->X k) (hq:Y q) (hb:b<q) (hwq:w.heap.size<=q) (hr:valueM en S=.ok (v,T)) (he:e=.returned v.enc) :
 Leaf X b en Val.enc w (valueM en S) e (((w2.setCell ⟨q,0,none⟩ x).setCell ⟨q,1,none⟩ y).setCell ⟨q,2,none⟩ z) :=
 ⟨hG.new hwq hb hP.lt_box (grown_set3 _ _ _ _ _),Or.inl ⟨v,T,hr,he,(hP.other hq hb (grown_set3 _ _ _ _ _)).fewer hXY hX⟩⟩
theorem val_hit0 {en:Nat} {S:PS} (h:isB [w_null] S.l=true):valueM en S=.ok (⟨0,0,noStr⟩,{ S with l:=S.l.tail }):=by unfold valueM;rw [if_pos h]
theorem val_hit1 {en:Nat} {S:PS} (h:isB [w_null] S.l=false) (h2:(nowT en S).kind=2):valueM en S=.ok (⟨1,(nowT en S).n,noStr⟩,{ S with l:=S.l.tail }):=by
 unfold valueM
 rw [if_neg (by rw [h];exact Bool.false_ne_true),if_pos (by simp [h2])]
theorem val_hit2 {en:Nat} {S:PS} (h:isB [w_null] S.l=false) (h2:(nowT en S).kind=3):valueM en S=.ok (⟨2,0,(nowT en S).text⟩,{ S with l:=S.l.tail }):=by
 unfold valueM
 rw [if_neg (by rw [h];exact Bool.false_ne_true),if_neg (by rw [h2];decide),if_pos (by simp [h2])]
theorem val_miss {en:Nat} {S:PS} (h:isB [w_null] S.l=false) (h2:(nowT en S).kind ≠ 2) (h3:(nowT en S).kind ≠ 3):valueM en S=.error ((nowT en S).pos,60):=by
 unfold valueM
 rw [if_neg (by rw [h];exact Bool.false_ne_true),if_neg (by simpa using h2),if_neg (by simpa using h3)]
theorem tail_one (S:PS):({ S with l:=S.l.drop [w_null].length }:PS)={ S with l:=S.l.tail }:=by simp
theorem value_any {X:Nat->Prop} {b en:Nat} {S:PS} {w:World} (h:PAt X b en S w):Calls Tryz.prog 87 #[.pointer (some ⟨b,0,none⟩)] w fun e w'=>Leaf X b en Val.enc w (valueM en S) e w':=by
 obtain ⟨W0,hW0⟩:∃ W0,w.alloc (.cells #[.int .i64 0,.int .i64 0,.string ⟨#[]⟩] 50)=W0:=⟨_,rfl⟩
 have b0:Below w.heap.size w W0:=by rw [<- hW0];exact (b0R).alloc (jR _) _
 have hq0:W0.heap[w.heap.size]? = some (.cells #[.int .i64 0,.int .i64 0,.string ⟨#[]⟩] 50 (0,0)):=by rw [<- hW0];exact heap_alloc_new _ _
 have con:=now_any (h.below b0)
 obtain ⟨Pst,hPst⟩:∃ Pst,Pst=Leaf X b en Val.enc w (valueM en S):=⟨_,rfl⟩
 have HPST:=hid hPst
 rw [<- hPst]
 obtain ⟨t,ht⟩:∃ t,t=nowT en S:=⟨_,rfl⟩
 have HT:=hid ht
 rw [<- ht] at con
 have HP:=hid h
 have B0:=hid b0
 have Q0:=hid hq0
 have HLB:=hid h.lt_box
 obtain ⟨tk,tp,tt,tn⟩:=t
 simp only [Tok.enc] at con
 clear h ht hPst b0 hq0
 go_enter Tryz.func87,Tryz.ntmps87
 go_wp2_with fail
 refine con.mono ?_
 rintro e w1 ⟨rfl,b1⟩
 have bt:Below w1.heap.size w1 (w1.alloc (.cells #[.int .i64 tk,.int .i64 tp,.string tt,.int .i64 tn] 56)):=(b0R).alloc (jR _) _
 have hqt:=heap_alloc_new w1 (.cells #[.int .i64 tk,.int .i64 tp,.string tt,.int .i64 tn] 56)
 have hsz1:=b1.size
 obtain ⟨W,hW⟩:∃ W,(w1.alloc (.cells #[.int .i64 tk,.int .i64 tp,.string tt,.int .i64 tn] 56))=W:=⟨_,rfl⟩
 have hsW:W.heap.size=w1.heap.size+1:=by rw [<- hW];simp
 rw [hW] at hqt bt
 have hBW:=B0.out.trans ((b1.trans (bt.mono hsz1)).mono B0.out.size)
 have hq1:=((b1.trans (bt.mono hsz1)).block _ (jB Q0.out)).trans Q0.out
 have hp1:=HP.out.more (Y:=fun k=>X k \/ (w.heap.size<=k/\k<W.heap.size)) hBW (fun _ h=>Or.inl h) (fun _ h=>h)
 have con2:=may_any (hp1.below ((b0R).alloc (jR _) (.cells #[.string w_null] 9))) (words_at W [w_null] (by simp))
 have HS:=hid (show w.heap.size<w1.heap.size/\W.heap.size=w1.heap.size+1 from ⟨jL (jB Q0.out) hsz1,hsW⟩)
 have QT:=hid hqt
 have Q1:=hid hq1
 have BW:=hid hBW
 clear con b1 bt hqt hsz1 hsW hBW hq1 hp1
 go_wp2_with fail
 refine con2.mono ?_
 rintro e w2 ⟨g2,h2⟩
 have hq2:=(g2.g.block _ (by have:=(Below.refl W.heap.size W).alloc (jR _) (.cells #[.string w_null] 9);have:=this.size;have:=jB Q1.out;omega) (by have:=HLB.out;simp;omega)).trans ((((Below.refl W.heap.size W).alloc (jR _) (.cells #[.string w_null] 9)).block _ (jB Q1.out)).trans Q1.out)
 have hqt2:=(g2.g.block _ (by have:=(Below.refl W.heap.size W).alloc (jR _) (.cells #[.string w_null] 9);have:=this.size;have:=jB QT.out;omega) (by have:=HLB.out;have:=HS.out.1;simp;omega)).trans ((((Below.refl W.heap.size W).alloc (jR _) (.cells #[.string w_null] 9)).block _ (jB QT.out)).trans QT.out)
 have G2:=hid (show Turn b w w2 from (turn_below HLB.out (BW.out.trans (((Below.refl W.heap.size W).alloc (jR _) (.cells #[.string w_null] 9)).mono BW.out.size))).trans g2)
 have kq0:=jC hq2 0
 have kq1:=jC hq2 1
 have kq2:=jC hq2 2
 have fq:=free_of hq2
 have fq0:=fq 0
 have fq1:=fq 1
 have fq2:=fq 2
 have kt0:=jC hqt2 0
 have kt1:=jC hqt2 1
 have kt2:=jC hqt2 2
 simp only [gT,gZ,gS] at kq0 kq1 kq2 kt0 kt1 kt2
 have YQ:=hid (show X w.heap.size \/ (w.heap.size<=w.heap.size/\w.heap.size<W.heap.size) from Or.inr ⟨jR _,by have:=HS.out;omega⟩)
 have Q2:=hid hq2
 have QT2:=hid hqt2
 clear con2 g2 fq hq2 hqt2
 cases hi:isB [w_null] S.l with
 | true =>
  rw [may_hit hi,tail_one] at h2
  obtain ⟨_,_,h2,rfl,p2⟩|⟨_,h2,_⟩:=h2
  · cases h2
    have HR:=hid (val_hit0 (en:=en) hi)
    have P2:=hid p2
    clear p2
    go_wp2_with fail
    rw [HPST.out]
    exact bodyPost_ret (results_cell_row rfl _ _ w.heap.size 50 _ (0,0) _ rfl (heap_set3 Q2.out _ _ _) Tryz.underlying50 rfl (by kernel_rfl)) rfl (value_end G2.out P2.out (fun _ h=>Or.inl h) HP.out.old YQ.out HLB.out (jR _) HR.out rfl)
  · cases h2
 | false =>
  rw [may_miss hi] at h2
  obtain ⟨_,_,h2,rfl,p2⟩|⟨_,h2,_⟩:=h2
  · cases h2
    have HI:=hid hi
    have P2:=hid p2
    have con3:=number_any p2
    have hone:=p2.one
    have HONE:=hid hone
    clear p2 hi hone
    by_cases h2:tk=2
    · subst h2
      have HR:=hid (show valueM en S=.ok (⟨1,tn,noStr⟩,{ S with l:=S.l.tail }) by rw [val_hit1 HI.out (by rw [<- HT.out]),<- HT.out])
      have HN:=hid (show numberM en S=.ok (tn,{ S with l:=S.l.tail }) by unfold numberM;rw [<- HT.out];rfl)
      rw [HN.out] at con3
      go_wp2_with fail
      refine con3.mono ?_
      rintro e w3 ⟨g3,h3⟩
      obtain ⟨_,_,h3,rfl,p3⟩|⟨_,h3,_⟩:=h3
      · cases h3
        have hq3:=(g3.g.block _ (jB Q2.out) (by have:=HLB.out;simp;omega)).trans Q2.out
        have G3:=hid (G2.out.trans g3)
        have P3:=hid p3
        have Q3:=hid hq3
        have jq0:=jC hq3 0
        have jq1:=jC hq3 1
        have jq2:=jC hq3 2
        have fq:=free_of hq3
        have gq0:=fq 0
        have gq1:=fq 1
        have gq2:=fq 2
        simp only [gT,gZ,gS] at jq0 jq1 jq2
        clear con3 g3 p3 hq3 fq kq0 kq1 kq2 fq0 fq1 fq2 kt0 kt1 kt2
        go_wp2_with fail
        rw [HPST.out]
        exact bodyPost_ret (results_cell_row rfl _ _ w.heap.size 50 _ (0,0) _ rfl (heap_set3 Q3.out _ _ _) Tryz.underlying50 rfl (by kernel_rfl)) rfl (value_end G3.out P3.out (fun _ h=>Or.inl h) HP.out.old YQ.out HLB.out (jR _) HR.out rfl)
      · cases h3
    have e2:(tk == 2)=false:=by simpa using h2
    clear con3
    by_cases h3:tk=3
    · subst h3
      have HR:=hid (show valueM en S=.ok (⟨2,0,tt⟩,{ S with l:=S.l.tail }) by rw [val_hit2 HI.out (by rw [<- HT.out]),<- HT.out])
      have hlen:=now_len (en:=en) (S:=S) (by rw [<- HT.out];show (3:Int) ≠ 0;decide)
      obtain ⟨a,n,c,k0,hf,hn1,hnc,hns,hfin⟩:=HONE.out hlen
      have FIN:=hid hfin
      have HNB:=hid (show w1.heap.size ≠ b/\w.heap.size ≠ b from ⟨by have:=HLB.out;have:=HS.out;omega,by have:=HLB.out;omega⟩)
      have oth:∀ (v:Value) (q j:Nat),q ≠ b->(w2.setCell ⟨b,0,none⟩ v).cell? ⟨q,j,none⟩=w2.cell? ⟨q,j,none⟩:=fun v q j hne =>
       World.cell?_of_block (w:=w2) (heap_setCell_other _ _ _ _ (by exact hne))
      have othf:∀ (v:Value) (q j:Nat),q ≠ b->(w2.setCell ⟨b,0,none⟩ v).frozen? ⟨q,j,none⟩=w2.frozen? ⟨q,j,none⟩:=fun v q j hne =>
       World.frozen?_of_block (w:=w2) (heap_setCell_other _ _ _ _ (by exact hne))
      have t2':=fun v=>(oth v _ 2 HNB.out.1).trans kt2
      have q0':=fun v=>(oth v _ 0 HNB.out.2).trans kq0
      have q1':=fun v=>(oth v _ 1 HNB.out.2).trans kq1
      have q2':=fun v=>(oth v _ 2 HNB.out.2).trans kq2
      have g0':=fun v=>(othf v _ 0 HNB.out.2).trans fq0
      have g1':=fun v=>(othf v _ 1 HNB.out.2).trans fq1
      have g2':=fun v=>(othf v _ 2 HNB.out.2).trans fq2
      clear hfin oth othf
      by_cases hc:c=1
      · go_wp2_with fail
        obtain ⟨h1,h2⟩:=FIN.out (.slice a (n - 1) 0) (if_pos hc).symm
        rw [HPST.out]
        exact bodyPost_ret (results_cell_row rfl _ _ w.heap.size 50 _ (0,0) _ rfl (heap_set3 ((heap_setCell_other _ _ _ _ (by exact HNB.out.2)).trans Q2.out) _ _ _) Tryz.underlying50 rfl (by kernel_rfl)) rfl (value_end (G2.out.trans h2) h1 (fun _ h=>Or.inl h) HP.out.old YQ.out HLB.out (jR _) HR.out rfl)
      · go_wp2_with fail
        obtain ⟨h1,h2⟩:=FIN.out (.slice (a.map fun x=>x.add (1 * 4)) (n - 1) (c - 1)) (if_neg hc).symm
        rw [HPST.out]
        exact bodyPost_ret (results_cell_row rfl _ _ w.heap.size 50 _ (0,0) _ rfl (heap_set3 ((heap_setCell_other _ _ _ _ (by exact HNB.out.2)).trans Q2.out) _ _ _) Tryz.underlying50 rfl (by kernel_rfl)) rfl (value_end (G2.out.trans h2) h1 (fun _ h=>Or.inl h) HP.out.old YQ.out HLB.out (jR _) HR.out rfl)
    have e3:(tk == 3)=false:=by simpa using h3
    have HR:=hid (show valueM en S=.error (tp,60) by rw [val_miss HI.out (by rw [<- HT.out];exact h2) (by rw [<- HT.out];exact h3),<- HT.out])
    have con4:=fail_any tp 60 w2
    go_wp2_with fail
    refine con4.mono ?_
    rintro e w3 ⟨rfl,rfl⟩
    go_wp2_with fail
    refine ⟨rfl,?_⟩
    show Pst _ _
    rw [HPST.out]
    exact ⟨G2.out,Or.inr ⟨_,HR.out,rfl⟩⟩
  · cases h2
end
section
open Go.RowKit
theorem list_more {en:Nat} {bt:ByteArray} {st:Tok->Bool} {one:PM Unit} {i most:Nat} {T T1:PS} (h:i<most) (h1:one T=.ok ((),T1)):listM en bt st one (most - i) T=if isB [bt] T1.l then listM en bt st one (most - (i+1)) { T1 with l:=T1.l.tail } else .ok ((),T1):=by
 rw [show most - i=(most - (i+1))+1 by omega]
 conv=>lhs;unfold listM
 rw [h1]
theorem list_err {en:Nat} {bt:ByteArray} {st:Tok->Bool} {one:PM Unit} {i most:Nat} {T:PS} {er:PErr} (h:i<most) (h1:one T=.error er):listM en bt st one (most - i) T=.error er:=by
 rw [show most - i=(most - (i+1))+1 by omega]
 conv=>lhs;unfold listM
 rw [h1]
theorem list_last {en:Nat} {bt:ByteArray} {st:Tok->Bool} {one:PM Unit} {i most:Nat} {T:PS} (h:i=most):listM en bt st one (most - i) T=if st (nowT en T) then .error ((nowT en T).pos,2) else one T:=by
 rw [show most - i=0 by omega];rfl
theorem list_any {b en:Nat} (J:Nat->PS->World->Prop) {Z:World->Prop} {most:Nat} {bt:ByteArray} {st:Tok->Bool} {one:PM Unit} {fs g:FuncId} {caps:Array Value}
 (hs:∀ t w1,EnvL w1->t.text.size<=4294967000->Calls Tryz.prog fs #[t.enc] w1 fun e w'=>e=.returned (.bool (st t))/\Below w1.heap.size w1 w')
 (es:∀ args w,(callFunc fs args).run Tryz.prog w=.ok (.enter fs args) w) (eg:∀ args w,(callFunc g args).run Tryz.prog w=.ok (.enter g args) w)
 (hone:∀ i S w,i<=most->J i S w->Calls Tryz.prog g caps w fun e w'=>(∃ S',one S=.ok ((),S')/\e=.returned (.tuple #[])/\J (i+1) S' w') \/ ∃ er,one S=.error er/\e=trouble er/\Z w')
 (hP:∀ i S w,J i S w->∃ Y,PAt Y b en S w/\∀ S' w',w.grownBy w' (some b)->PAt Y b en S' w'->S'.s=S.s->S'.out=S.out->J i S' w')
 (hZ:∀ i S w,J i S w->Z w) (hst:∀ i S w,J i S w->st (nowT en S)=false->∃ er,one S=.error er) (hm:most<=1000) {S:PS} {w:World} (h:J 0 S w) :
 Calls Tryz.prog 81 #[.pointer (some ⟨b,0,none⟩),.int .i64 most,.string bt,.func (.func fs) #[] #[],.func (.func g) #[] caps] w fun e w' =>
  (∃ S' i,listM en bt st one most S=.ok ((),S')/\e=.returned (.tuple #[])/\i<=most+1/\J i S' w') \/ ∃ er,listM en bt st one most S=.error er/\e=trouble er/\Z w':=by
 obtain ⟨Pst,hPst⟩:∃ Pst,Pst=fun (e:Ending) (w':World)=>(∃ S' i,listM en bt st one most S=.ok ((),S')/\e=.returned (.tuple #[])/\i<=most+1/\J i S' w') \/ ∃ er,listM en bt st one most S=.error er/\e=trouble er/\Z w':=⟨_,rfl⟩
 have HPST:=hid hPst
 show Calls _ _ _ _ fun e w'=>_
 have HS:=hid hs
 have HONE:=hid hone
 have HP:=hid hP
 have HZ:=hid hZ
 have HST:=hid hst
 have H:=hid h
 refine Calls.mono (R:=Pst) ?_ (fun e w' h=>by rw [hPst] at h;exact h)
 clear hs hone hP hZ hst h hPst
 go_enter Tryz.func81,Tryz.ntmps81
 go_wp2_with fail
 go_loopw [10] (fun ii wr=>∃ (i:Nat) (T:PS),i<=most/\ii=.int .i64 ((i:Int)+1)/\Hid (J i T wr)/\Hid (listM en bt st one most S=listM en bt st one (most - i) T)) (fun ii _=>most+1 - (intOf ii).toNat)
 case atStart=>exact ⟨0,S,Nat.zero_le _,rfl,H,rfl⟩
 case round =>
  obtain ⟨i,T,hi,rfl,HJ,HE⟩:=hrel
  obtain ⟨Y,hpY,hlY⟩:=HP.out i T wr HJ.out
  have con:=now_any hpY
  obtain ⟨hsz,_,_⟩:=now_ok hpY
  have HY:=hid hpY
  have HLY:=hid hlY
  clear hpY hlY
  obtain ⟨t,ht⟩:∃ t,t=nowT en T:=⟨_,rfl⟩
  have HT:=hid ht
  rw [<- ht] at con hsz
  obtain ⟨tk,tp,tt,tn⟩:=t
  simp only [Tok.enc] at con
  clear ht
  go_wp2_with fail
  refine con.mono ?_
  rintro e w1 ⟨rfl,b1⟩
  have ba:Below wr.heap.size wr (w1.alloc (.cells #[.int .i64 tk,.int .i64 tp,.string tt,.int .i64 tn] 56)):=b1.trans (((b0R).alloc (jR _) _).mono b1.size)
  have hq:=heap_alloc_new w1 (.cells #[.int .i64 tk,.int .i64 tp,.string tt,.int .i64 tn] 56)
  obtain ⟨W,hW⟩:∃ W,(w1.alloc (.cells #[.int .i64 tk,.int .i64 tp,.string tt,.int .i64 tn] 56))=W:=⟨_,rfl⟩
  rw [hW] at ba hq
  have HJW:=hid (HLY.out T W (below_grown ba _) (HY.out.below ba) rfl rfl)
  have HEW:=hid (HY.out.env.below ba)
  have k0:=jC hq 0
  have k1:=jC hq 1
  have k2:=jC hq 2
  have k3:=jC hq 3
  simp only [gT,gZ,gS] at k0 k1 k2 k3
  clear con b1 ba
  by_cases hlt:i<most
  · have d1:decide (most<=i)=false:=decide_eq_false (by omega)
    have d2:decide ((most:Int)<(i:Int)+1)=false:=decide_eq_false (by omega)
    have con:=HONE.out i T W hi HJW.out
    clear hq
    go_wp2_with fail
    refine con.mono ?_
    rintro e w2 h2
    clear con k0 k1 k2 k3
    obtain ⟨T1,ho,rfl,j2⟩|⟨er,ho,rfl,z2⟩:=h2
    · have HO:=hid (list_more (en:=en) (bt:=bt) (st:=st) hlt ho)
      have HJ2:=hid j2
      obtain ⟨Y2,hpY2,hlY2⟩:=HP.out _ T1 w2 j2
      have HLY2:=hid hlY2
      have con2:=may_any (X:=Y2) (b:=b) (en:=en) (S:=T1) (hpY2.below ((b0R).alloc (jR _) (.cells #[.string bt] 9))) (words_at w2 [bt] (by simp))
      clear j2 ho hpY2 hlY2
      go_wp2_with fail
      refine con2.mono ?_
      rintro e w3 ⟨g3,h3⟩
      have G3:=hid ((World.grownBy_alloc w2 (.cells #[.string bt] 9) (some b)).trans g3.g)
      clear con2 g3
      cases hb:isB [bt] T1.l with
      | true =>
       rw [may_hit hb] at h3
       obtain ⟨_,_,h3,rfl,p3⟩|⟨_,h3,_⟩:=h3
       · cases h3
         have HJ3:=hid (HLY2.out _ w3 G3.out p3 rfl rfl)
         have HE3:=hid (show listM en bt st one most S=listM en bt st one (most - (i+1)) { T1 with l:=T1.l.drop [bt].length } by rw [HE.out,HO.out,hb,if_pos rfl];simp)
         clear p3
         go_wp2_with fail
         refine ⟨⟨i+1,_,hlt,by rw [Int.natCast_add];rfl,HJ3,HE3⟩,?_⟩
         show most+1 - ((((i:Int)+1)+1).toNat)<most+1 - (((i:Int)+1).toNat)
         omega
       · cases h3
      | false =>
       rw [may_miss hb] at h3
       obtain ⟨_,_,h3,rfl,p3⟩|⟨_,h3,_⟩:=h3
       · cases h3
         have HJ3:=hid (HLY2.out _ w3 G3.out p3 rfl rfl)
         have HE3:=hid (show listM en bt st one most S=.ok ((),T1) by rw [HE.out,HO.out,hb,if_neg Bool.false_ne_true])
         clear p3
         go_wp2_with fail
         refine bodyPost_ret (v:=.tuple #[]) (results_none rfl _ _ _) rfl ?_
         rw [HPST.out]
         exact Or.inl ⟨T1,i+1,HE3.out,rfl,by omega,HJ3.out⟩
       · cases h3
    · have HO:=hid (list_err (en:=en) (bt:=bt) (st:=st) hlt ho)
      have Z2:=hid z2
      clear z2 ho
      go_wp2_with fail
      refine ⟨rfl,?_⟩
      rw [HPST.out]
      exact Or.inr ⟨er,HE.out.trans HO.out,rfl,Z2.out⟩
  · have him:i=most:=by omega
    have d1:decide (most<=i)=true:=decide_eq_true (by omega)
    have d2:decide ((most:Int)<(i:Int)+1)=true:=decide_eq_true (by omega)
    have HO:=hid (list_last (en:=en) (bt:=bt) (st:=st) (one:=one) (T:=T) him)
    rw [<- HT.out] at HO
    have con:=HS.out ⟨tk,tp,tt,tn⟩ W HEW.out hsz
    have Q:=hid hq
    simp only [Tok.enc] at con
    clear hq
    go_wp2_with fail
    refine con.mono ?_
    rintro e w2 ⟨rfl,b2⟩
    obtain ⟨Y2,hpY2,hlY2⟩:=HP.out i T W HJW.out
    have hj2:=hlY2 T w2 (below_grown b2 _) (hpY2.below b2) rfl rfl
    clear hpY2 hlY2
    have HJ2:=hid hj2
    have hq2:=(b2.block _ (jB Q.out)).trans Q.out
    have k1:=jC hq2 1
    simp only [gT,gZ,gS] at k1
    clear con b2 hq2
    cases hst:st ⟨tk,tp,tt,tn⟩ with
    | true =>
     have con2:=fail_any tp 2 w2
     have HE3:=hid (show listM en bt st one most S=.error (tp,2) by rw [HE.out,HO.out,hst,if_pos rfl])
     clear hj2 hst
     go_wp2_with fail
     refine con2.mono ?_
     rintro e w3 ⟨rfl,rfl⟩
     go_wp2_with fail
     refine ⟨rfl,?_⟩
     rw [HPST.out]
     exact Or.inr ⟨_,HE3.out,rfl,HZ.out _ _ _ HJ2.out⟩
    | false =>
     obtain ⟨er,he⟩:=HST.out i T w2 hj2 (by rw [<- HT.out];exact hst)
     have con2:=HONE.out i T w2 hi hj2
     have HE3:=hid (show listM en bt st one most S=.error er by rw [HE.out,HO.out,hst,if_neg Bool.false_ne_true,he])
     have HE4:=hid he
     clear hj2 hst he
     go_wp2_with fail
     refine con2.mono ?_
     rintro e w3 h3
     obtain ⟨T1,ho,rfl,j2⟩|⟨er',ho,rfl,z2⟩:=h3
     · rw [HE4.out] at ho;cases ho
     · rw [HE4.out] at ho
       cases ho
       have Z2:=hid z2
       clear con2 z2
       go_wp2_with fail
       refine ⟨rfl,?_⟩
       rw [HPST.out]
       exact Or.inr ⟨_,HE3.out,rfl,Z2.out⟩
end
section
open Go.RowKit
structure CJ (X:Nat->Prop) (b en qo qp:Nat) (w0:World) (i:Nat) (S:PS) (w:World):Prop where
 p:w.heap[qp]? = some (.cells #[.pointer (some ⟨b,0,none⟩)] 63 (0,0))
 v:∃ v Y,w.heap[qo]? = some (.cells #[v] 27 (0,0))/\w.ownsRow w0.heap.size 9 1 v S.out.length (S.out.flatMap strEnc)/\PAt Y b en S w/\(∀ k,X k->Y k)/\Y qo/\Y qp/\∀ g,v.ownBlock=some g->Y g
 g:w0.grownBy w (some b)
 len:S.out.length<=i
theorem name_keeps {en:Nat} {S S1:PS} {nm:ByteArray} (h:nameM en S=.ok (nm,S1)):S1={ S with l:=S.l.tail }:=by
 unfold nameM at h
 split at h
 · split at h
   · cases h
   · cases h;rfl
 · cases h
theorem PAt.setOut {X:Nat->Prop} {b en:Nat} {S:PS} {w:World} (h:PAt X b en S w) (o:List ByteArray):PAt X b en { S with out:=o } w:=⟨h.env,h.glob,h.old,h.lt,h.nb,h.box,h.tok⟩
theorem CJ.below {X:Nat->Prop} {b en qo qp:Nat} {w0:World} {i:Nat} {S:PS} {w w':World} (h:CJ X b en qo qp w0 i S w) (hb:Below w.heap.size w w'):CJ X b en qo qp w0 i S w':=by
 obtain ⟨h1,⟨v,Y,h2,h3,h4,h5⟩,h6,h7⟩:=h
 exact ⟨(hb.block _ (jB h1)).trans h1,⟨v,Y,(hb.block _ (jB h2)).trans h2,owns_below h3 hb,h4.below hb,h5⟩,h6.trans (below_grown hb _),h7⟩
def C2 (Y:Nat->Prop) (b en:Nat) (S1:PS) (nm:ByteArray) (W:World) (u:Value) (w':World):Prop:=u=.string nm/\W.grownBy w' (some b)/\PAt Y b en S1 w'
def C3 (Y:Nat->Prop) (b en:Nat) (S1:PS) (nm:ByteArray) (W:World) (u:Value) (w':World):Prop:=∃ g,u=.slice (some ⟨g,0,none⟩) 1 1/\W.heap.size<=g/\w'.heap[g]? = some (.cells #[.string nm] 9 (0,0))/\W.grownBy w' (some b)/\PAt Y b en S1 w'
def CQ (qo qp b:Nat) (v:Value) (w':World):Prop:=w'.heap[qo]? = some (.cells #[v] 27 (0,0))/\w'.heap[qp]? = some (.cells #[.pointer (some ⟨b,0,none⟩)] 63 (0,0))
def C4 (Y:Nat->Prop) (b en qo qp:Nat) (S1:PS) (v:Value) (n:Nat) (xs:List Value) (w0:World) (u:Value) (w':World):Prop :=
 ∃ Y',w'.ownsRow w0.heap.size 9 1 u n xs/\(∀ g,u.ownBlock=some g->Y' g)/\PAt Y' b en S1 w'/\(∀ k,Y k->Y' k)/\CQ qo qp b v w'/\w0.grownBy w' (some b)
theorem grown_then {w w1 w2:World} {r:Option Nat} (h:w.grownBy w1 r) (b:Below w1.heap.size w1 w2):w.grownBy w2 r:=h.trans (below_grown b r)
theorem CQ.below {qo qp b:Nat} {v:Value} {w1 w2:World} (h:CQ qo qp b v w1) (hb:Below w1.heap.size w1 w2):CQ qo qp b v w2:=⟨(hb.block _ (jB h.1)).trans h.1,(hb.block _ (jB h.2)).trans h.2⟩
theorem CQ.grown {qo qp b:Nat} {v:Value} {w1 w2:World} {r:Option Nat} (h:CQ qo qp b v w1) (g:w1.grownBy w2 r) (h1:some qo ≠ r) (h2:some qp ≠ r):CQ qo qp b v w2:=⟨(g.block _ (jB h.1) h1).trans h.1,(g.block _ (jB h.2) h2).trans h.2⟩
theorem cols1_any {X:Nat->Prop} {b en qo qp:Nat} {w0:World} {i:Nat} {S:PS} {w:World} (hi:i<=1000) (h:CJ X b en qo qp w0 i S w) (hqo:w0.heap.size<=qo) (hqp:w0.heap.size<=qp) (hb0:b<w0.heap.size) :
 Calls Tryz.prog 125 #[.pointer (some ⟨qo,0,none⟩),.pointer (some ⟨qp,0,none⟩)] w fun e w' =>
  (∃ S',colsOne en S=.ok ((),S')/\e=.returned (.tuple #[])/\CJ X b en qo qp w0 (i+1) S' w') \/ ∃ er,colsOne en S=.error er/\e=trouble er/\w0.grownBy w' (some b):=by
 obtain ⟨hp,⟨v,Y,ho,hv,hP,hXY,hYo,hYp,hYg⟩,hg,hlen⟩:=h
 have en172:∀ args w,(callFunc 79 args).run Tryz.prog w=.ok (.enter 79 args) w:=enters_of Tryz.func79 (by kernel_rfl) rfl
 have HPT:=hid hp
 have HO:=hid ho
 have HV:=hid hv
 have HP:=hid hP
 have HG:=hid hg
 have HY:=hid (show _/\_/\_/\_ from ⟨hXY,hYo,hYp,hYg⟩)
 have HE:=hid en172
 clear hp ho hv hP hg hXY hYo hYp hYg en172
 cases hn:nameM en S with
 | error er =>
  have HR:=hid (show colsOne en S=.error er by unfold colsOne;rw [hn])
  have HN:=hid hn
  clear hn
  go_enter Tryz.func125,Tryz.ntmps125
  go_upto_region 0 with (fail)
  apply wp_region_dies [0,1] 2 (Below w.heap.size w) (fun e w'=>e=trouble er/\w0.grownBy w' (some b))
  case hq =>
   intro w1 hw1
   have ne:Nonempty (Wld (Below w1.heap.size w1)):=⟨⟨w1,Below.refl _ _⟩⟩
   have c0:=fun x:Wld (Below w1.heap.size w1)=>jC (((hw1.trans (x.good.mono hw1.size)).block _ (jB HO.out)).trans HO.out) 0
   have c1:=fun x:Wld (Below w1.heap.size w1)=>jC (((hw1.trans (x.good.mono hw1.size)).block _ (jB HPT.out)).trans HPT.out) 0
   simp only [List.getElem?_toArray,List.getElem?_cons_zero] at c0 c1
   simp only [pickOps,List.getElem?_cons_zero,List.getElem?_cons_succ]
   apply quiet_hide
   intro KE hKE
   repeat (go_big_quiet_step (fail))
   refine wpQuiet_nil ?_
   exact hKE _ rfl
  case hm=>kernel_rfl
  case hB=>kernel_rfl
  case hl=>decide
  case hI=>exact fun w1 w2 h b=>h.trans (b.mono h.size)
  case hw=>exact Below.drew b0R
  case ho=>rfl
  case hwant=>kernel_rfl
  case hd =>
   intro w1 hw1
   refine dies_call (args:=#[.pointer (some ⟨b,0,none⟩)]) (run_call_func rfl (by kernel_rfl) HE.out) ((name_any (HP.out.below hw1)).mono ?_)
   rintro e w2 ⟨g2,⟨_,_,h2,_⟩|⟨er',h2,rfl⟩⟩
   · rw [HN.out] at h2;cases h2
   · rw [HN.out] at h2
     cases h2
     exact ⟨⟨_,rfl⟩,rfl,HG.out.trans ((below_grown hw1 _).trans g2.g)⟩
  case hQ =>
   rintro a' w' ch hd ⟨h1,h2⟩
   exact ⟨hd,Or.inr ⟨er,HR.out,h1,h2⟩⟩
 | ok q =>
  obtain ⟨nm,S1⟩:=q
  have hk:=name_keeps hn
  have hS1o:S1.out=S.out:=by rw [hk]
  have HR:=hid (show colsOne en S=.ok ((),{ S1 with out:=S.out ++ [nm] }) by unfold colsOne;rw [hn,<- hS1o])
  have HN:=hid hn
  obtain ⟨i0,hi0,hz0,hz1,hz2⟩:=info_parts (show (Tryz.prog.info? 9).map (fun i=>(i.zero,i.size,i.bytes))=some (some (.string ByteArray.empty),1,16) by kernel_rfl)
  have HQ:=hid (show CQ qo qp b v w from ⟨HO.out,HPT.out⟩)
  have NE:=hid (show qo ≠ b/\qp ≠ b from ⟨by omega,by omega⟩)
  have ROW:=hid (show w.heap.size=w.heap.size/\S.out.length<=1000 from ⟨rfl,by omega⟩)
  clear hn hk
  go_enter Tryz.func125,Tryz.ntmps125
  go_upto_region 0 with (fail)
  refine wp_region_loose2 [([0,1],2),([],3),([],4),([],5)] (CQ qo qp b v) (Below w.heap.size w) (by kernel_rfl) (by kernel_rfl) (by kernel_rfl) (fun w1 w2 h b=>h.trans (b.mono h.size)) (Below.drew b0R) ?_
  apply wpSegs_call (CQ qo qp b v) (C2 Y b en S1 nm w) (fun _ h=>h) (fun w' h=>HQ.out.below h)
  case hq =>
   intro w1 hw1
   have ne:Nonempty (Wld (Below w1.heap.size w1)):=⟨⟨w1,Below.refl _ _⟩⟩
   have c0:=fun x:Wld (Below w1.heap.size w1)=>jC (hw1.below x.good).1 0
   have c1:=fun x:Wld (Below w1.heap.size w1)=>jC (hw1.below x.good).2 0
   simp only [List.getElem?_toArray,List.getElem?_cons_zero] at c0 c1
   simp only [pickOps,List.getElem?_cons_zero,List.getElem?_cons_succ]
   apply quiet_hide
   intro KE hKE
   repeat (go_big_quiet_step (fail))
   refine wpQuiet_nil ?_
   exact hKE _ rfl
  case ho=>rfl
  case hw=>kernel_rfl
  case hD=>exact fun u w1 w2 h hb=>⟨h.1,grown_then h.2.1 hb,h.2.2.below hb⟩
  case hDJ=>exact fun _ u w' h=>HQ.out.grown h.2.1 (by have:=NE.out.1;simpa using this) (by have:=NE.out.2;simpa using this)
  case hlo =>
   intro w1 hw1
   refine loose_call (args:=#[.pointer (some ⟨b,0,none⟩)]) (run_call_func rfl (by kernel_rfl) HE.out) ((name_any (HP.out.below hw1)).mono ?_)
   rintro e w2 ⟨g2,⟨a,S',h2,rfl,p2⟩|⟨er',h2,rfl⟩⟩
   · rw [HN.out] at h2
     cases h2
     exact ⟨_,rfl,rfl,(below_grown hw1 _).trans g2.g,p2⟩
   · rw [HN.out] at h2;cases h2
  case hrest =>
   rintro u w1 ⟨rfl,-,-⟩
   simp only [Act.put,List.setIfInBounds_toArray,List.set_cons_succ,List.set_cons_zero]
   apply wpSegs_cons0 (C3 Y b en S1 nm w)
   case hCI=>exact fun w' h=>HQ.out.grown h.2.1 (by have:=NE.out.1;simpa using this) (by have:=NE.out.2;simpa using this)
   case ho=>rfl
   case hop=>rfl
   case hw=>kernel_rfl
   case hD=>exact fun u w1 w2 ⟨g,h1,h2,h3,h4,h5⟩ hb=>⟨g,h1,h2,(hb.block _ (jB h3)).trans h3,grown_then h4 hb,h5.below hb⟩
   case hDI=>exact fun _ u w' ⟨g,h1,h2,h3,h4,h5⟩=>HQ.out.grown h4 (by have:=NE.out.1;simpa using this) (by have:=NE.out.2;simpa using this)
   case hlo =>
    rintro wa ⟨-,g1,p1⟩
    have G1:=hid g1
    have P1:=hid p1
    clear g1 p1
    go_wp2_with fail
    have ba:Below wa.heap.size wa (wa.alloc (.cells #[.string nm] 9)):=(b0R).alloc (jR _) _
    exact ⟨wa.heap.size,rfl,G1.out.size,heap_alloc_new _ _,grown_then G1.out ba,P1.out.below ba⟩
   case hrest =>
    rintro u2 w2 ⟨g,rfl,-,-,-,-⟩
    simp only [Act.put,List.setIfInBounds_toArray,List.set_cons_succ,List.set_cons_zero]
    apply wpSegs_cons0 (C4 Y b en qo qp S1 v (S.out.length+1) (S.out.flatMap strEnc ++ [.string nm]) w0)
    case hCI=>exact fun w' ⟨g,h1,h2,h3,h4,h5⟩=>HQ.out.grown h4 (by have:=NE.out.1;simpa using this) (by have:=NE.out.2;simpa using this)
    case ho=>rfl
    case hop=>rfl
    case hw=>kernel_rfl
    case hD=>exact fun u w1 w2 ⟨Y',h1,h2,h3,h4,h5,h6⟩ hb=>⟨Y',owns_below h1 hb,h2,h3.below hb,h4,h5.below hb,grown_then h6 hb⟩
    case hDI=>exact fun _ u w' ⟨Y',h1,h2,h3,h4,h5,h6⟩=>h5
    case hlo =>
     rintro wa ⟨g',e,hg',hq',g4,p4⟩
     obtain rfl:g=g':=by simpa using e
     clear e
     have hva:wa.ownsRow w0.heap.size 9 1 v S.out.length (S.out.flatMap strEnc):=HV.out.kept g4 (Or.inr fun e=>by
      have h1:=(HV.out.lt b e).1
      omega)
     have hws:w0.heap.size<=wa.heap.size:=Nat.le_trans HG.out.size g4.size
     refine wpList_append_own_at _ rfl _ _ 27 rfl w0.heap.size 9 i0 _ 1 16 Tryz.underlying27 hi0 hz0 hz1 hz2 rfl (by decide) v S.out.length _ rfl hva ⟨g,0,none⟩ 1 1 [.string nm] rfl rfl (fun j u hj=>by rw [addr_add,jC hq'];simpa using hj) (fun u hu=>by rw [List.mem_singleton.1 hu];rfl) (by unfold maxLen;have:=ROW.out.2;omega) (by have:=ROW.out.2;omega) hws ?_
     intro v1 w5 o1 g1 hx1 at1
     refine wpList_nil ⟨rfl,_,rfl,?_⟩
     have hcq:CQ qo qp b v wa:=HQ.out.grown g4 (by have:=NE.out.1;simpa using this) (by have:=NE.out.2;simpa using this)
     have hpg:=p4.grow (r:=v.ownBlock) (fun q hq=>⟨HY.out.2.2.2 q hq,by have:=(HV.out.lt q hq).1;omega⟩) g1
     refine ⟨_,o1,fun k hk=>?_,hpg,fun k hk=>Or.inl hk,?_,?_⟩
     · rcases at1 with e|e
       · exact Or.inl (HY.out.2.2.2 k (e ▸ hk))
       · rw [e] at hk
         have:=(o1.lt k (by rw [e];exact hk)).2
         simp only [Option.some.injEq] at hk
         exact Or.inr ⟨by omega,this⟩
     · exact hcq.grown g1 (row_not hcq.1 hva (by decide)) (row_not hcq.2 hva (by decide))
     · refine ⟨g1.os.trans (g4.os.trans HG.out.os),g1.tape.trans (g4.tape.trans HG.out.tape),g1.output.trans (g4.output.trans HG.out.output),Nat.le_trans hws g1.size,fun k hk hn=>?_⟩
       have hkw:=jL hk HG.out.size
       exact (g1.block k (jL hk hws) fun e=>by have:=(hva.lt k e.symm).1;omega).trans ((g4.block k hkw hn).trans (HG.out.block k hk hn))
    case hrest =>
     rintro u3 w3 ⟨Y',o3,-,-,-,-,-⟩
     obtain ⟨ua,uc,rfl,_⟩:=owns_shape' o3
     clear o3
     simp only [Act.put,List.setIfInBounds_toArray,List.set_cons_succ,List.set_cons_zero]
     apply wpSegs_cons0 (fun _=>CJ X b en qo qp w0 (i+1) { S1 with out:=S.out ++ [nm] })
     case hCI=>exact fun w' ⟨Y',h1,h2,h3,h4,h5,h6⟩=>h5
     case ho=>rfl
     case hop=>rfl
     case hw=>kernel_rfl
     case hD=>exact fun u w1 w2 h hb=>h.below hb
     case hDI=>exact fun h=>absurd rfl h
     case hlo =>
      rintro wa hC
      have HC:=hid hC
      obtain ⟨Y',-,-,-,-,hcq,-⟩:=hC
      have k0:=jC hcq.1 0
      have f0:=free_of hcq.1 0
      simp only [List.getElem?_toArray,List.getElem?_cons_zero] at k0
      clear hcq
      go_wp2_with fail
      obtain ⟨Y',o4,hY',hp4,hYY,hcq,hg4⟩:=HC.out
      have hpo:qo ≠ qp:=fun e=>by
       have h1:=hcq.1
       rw [e,hcq.2] at h1
       simp at h1
      have g5:=grown_set wa qo 0 (.slice ua (S.out.length+1) uc)
      refine ⟨(g5.block qp (jB hcq.2) (by simpa using Ne.symm hpo)).trans hcq.2,⟨_,Y',(heap_setCell_same _ _ _ _ _ _ hcq.1).trans rfl,?_,(hp4.other (hYY _ HY.out.2.1) (by omega) g5).setOut _,fun k hk=>hYY k (HY.out.1 k hk),hYY _ HY.out.2.1,hYY _ HY.out.2.2.1,hY'⟩,grown_new hg4 hqo g5,by simp;omega⟩
      have e1:(S.out ++ [nm]).flatMap strEnc=S.out.flatMap strEnc ++ [.string nm]:=by simp [strEnc]
      rw [e1,List.length_append]
      exact o4.kept g5 (Or.inr fun e=>row_not hcq.1 o4 (by decide) e.symm)
     case hrest =>
      rintro u4 w4 h4
      refine wpSegs_nil fun w' h'=>?_
      go_end0
      exact Or.inl ⟨_,HR.out,rfl,h'⟩
end
section
open Go.RowKit
theorem named_start {en:Nat} {S:PS} (h:namedT (nowT en S)=false):∃ er,nameM en S=.error er:=⟨_,by unfold nameM;rw [if_neg (by rw [h];exact Bool.false_ne_true)]⟩
theorem hmf (fn:Fn) (first cap:Array Value) (w:World):(Instr.makeFunc fn first cap).run Tryz.prog w=.ok (.func fn first cap) w:=rfl
def ColsPost (X:Nat->Prop) (b en most:Nat) (S:PS) (w:World) (e:Ending) (w':World):Prop :=
 w.grownBy w' (some b)/\((∃ L S' v,columnsM en most S=.ok (L,S')/\e=.returned v/\w'.ownsRow w.heap.size 9 1 v L.length (L.flatMap strEnc)/\L.length<=most+1/\PAt X b en S' w') \/ ∃ er,columnsM en most S=.error er/\e=trouble er)
theorem columns_any {X:Nat->Prop} {b en most:Nat} {S:PS} {w:World} (hm:most<=100) (h:PAt X b en S w) :
 Calls Tryz.prog 84 #[.pointer (some ⟨b,0,none⟩),.int .i64 most] w fun e w'=>ColsPost X b en most S w e w':=by
 have hmf:=hmf
 have hb:=h.lt_box
 obtain ⟨Pst,hPst⟩:∃ Pst,Pst=ColsPost X b en most S w:=⟨_,rfl⟩
 have HPST:=hid hPst
 rw [<- hPst]
 obtain ⟨W,hW⟩:∃ W,(w.alloc (.cells #[.pointer (some ⟨b,0,none⟩)] 63)).alloc (.cells #[.slice none 0 0] 27)=W:=⟨_,rfl⟩
 have hA:allocs w [_,_]=W:=hW
 have bW:=allocs_self hA
 have hqp:W.heap[w.heap.size]? = some (.cells #[.pointer (some ⟨b,0,none⟩)] 63 (0,0)):=allocs_get hA 0 rfl
 have hqo:W.heap[w.heap.size+1]? = some (.cells #[.slice none 0 0] 27 (0,0)):=allocs_get hA 1 rfl
 have hcj:CJ X b en (w.heap.size+1) w.heap.size w 0 { S with out:=[] } W :=
  ⟨hqp,⟨_,_,hqo,World.ownsRow_nil _ _ _ _,(h.more (Y:=fun k=>X k \/ (w.heap.size<=k/\k<W.heap.size)) bW (fun _ h=>Or.inl h) (fun _ h=>h)).setOut [],fun _ h=>Or.inl h,Or.inr ⟨by omega,jB hqo⟩,Or.inr ⟨jR _,jB hqp⟩,fun g hg=>by simp [Value.ownBlock] at hg⟩,below_grown bW _,jR _⟩
 have con:=list_any (b:=b) (en:=en) (CJ X b en (w.heap.size+1) w.heap.size w) (Z:=fun w'=>w.grownBy w' (some b)) (most:=most) (bt:=w_comma) (st:=namedT) (one:=colsOne en) (fs:=82) (g:=125) (caps:=#[.pointer (some ⟨w.heap.size+1,0,none⟩),.pointer (some ⟨w.heap.size,0,none⟩)])
  (fun t w1 he hs=>named_any t he hs) (enters_of Tryz.func82 (by kernel_rfl) rfl) (enters_of Tryz.func125 (by kernel_rfl) rfl)
  (fun i T w1 hi hJ=>cols1_any (by omega) hJ (by omega) (jR _) hb)
  (fun i T w1 ⟨h1,⟨v,Y,h2,h3,h4,h5,h6,h7,h8⟩,h9,h10⟩=>⟨Y,h4,fun S' w' g p hs ho=>⟨(g.block _ (jB h1) (by simp;omega)).trans h1,⟨v,Y,(g.block _ (jB h2) (by simp;omega)).trans h2,by rw [ho];exact h3.kept g (Or.inr fun e=>by have:=(h3.lt b e).1;omega),p,h5,h6,h7,h8⟩,h9.trans g,by rw [ho];exact h10⟩⟩)
  (fun i T w1 hJ=>hJ.g) (fun i T w1 hJ hst=>by
   obtain ⟨er,he⟩:=named_start hst
   exact ⟨er,by unfold colsOne;rw [he]⟩) (by omega) hcj
 have k0:=jC hqp 0
 simp only [List.getElem?_toArray,List.getElem?_cons_zero] at k0
 have HX:=hid (show (∀ k,k<b->X k)/\b<w.heap.size from ⟨h.old,hb⟩)
 clear hPst hA bW hqp hqo hcj h hb
 go_enter Tryz.func84,Tryz.ntmps84
 go_wp2_with fail
 refine con.mono ?_
 rintro e w2 h2
 clear con k0
 obtain ⟨T,i,ho,rfl,hi,hJ⟩|⟨er,ho,rfl,hg⟩:=h2
 · have HR:=hid (show columnsM en most S=.ok (T.out,{ T with out:=S.out }) by unfold columnsM;rw [ho])
   obtain ⟨h1,⟨v,Y,h2,h3,h4,h5,h6,h7,h8⟩,h9,h10⟩:=hJ
   obtain ⟨ua,uc,rfl,_⟩:=owns_shape' h3
   have k0:=jC h2 0
   have f0:=free_of h2 0
   simp only [List.getElem?_toArray,List.getElem?_cons_zero] at k0
   have Q2:=hid h2
   have O2:=hid h3
   have P2:=hid h4
   have G2:=hid h9
   have HY:=hid (show _/\_ from ⟨h5,h6⟩)
   have HLE:=hid (show T.out.length<=most+1 by omega)
   clear ho h1 h2 h3 h4 h5 h6 h7 h8 h9 h10
   go_wp2_with fail
   have g5:=grown_set w2 (w.heap.size+1) 0 (.slice ua T.out.length uc)
   have hq5:(w2.setCell ⟨w.heap.size+1,0,none⟩ (.slice ua T.out.length uc)).cell? ⟨w.heap.size+1,0,none⟩=some (.slice ua T.out.length uc):=by
    have:=jC (heap_setCell_same w2 _ 0 _ _ (.slice ua T.out.length uc) Q2.out) 0
    simpa using this
   refine bodyPost_ret (v:=.slice ua T.out.length uc) (by simp [results,Tryz.results84,go_sem,hq5]) rfl ?_
   rw [HPST.out]
   refine ⟨grown_new G2.out (by omega) g5,Or.inl ⟨T.out,_,_,HR.out,rfl,O2.out.kept g5 (Or.inr fun e=>row_not Q2.out O2.out (by decide) e.symm),HLE.out,?_⟩⟩
   exact ((P2.out.other HY.out.2 (by have:=HX.out.2;omega) g5).fewer HY.out.1 HX.out.1).setOut _
 · have HR:=hid (show columnsM en most S=.error er by unfold columnsM;rw [ho])
   have G2:=hid hg
   clear ho hg
   go_wp2_with fail
   refine ⟨rfl,?_⟩
   rw [HPST.out]
   exact ⟨G2.out,Or.inr ⟨_,HR.out,rfl⟩⟩
end
section
open Go.RowKit
theorem fields_any {s:ByteArray} {L:List ByteArray} (hL:(Lib.fields s.data.toList).map (fun l=>(⟨l.toArray⟩:ByteArray))=L) (hs:s.size<4294967281) (ha:s.data.toList.all (fun b=>decide (b.toNat<128))=true) {w:World} (he:EnvL w) :
 Calls Tryz.prog 66 #[.string s] w fun e w'=>e=.returned (.slice (some ⟨w.heap.size,0,none⟩) L.length L.length)/\w'=w.alloc (.cells (L.map Value.string).toArray 9):=by
 refine (Tryz.strings_Fields s w hs (fun j b hb=>by simpa using List.all_eq_true.1 ha b (List.mem_of_getElem? hb)) he.sp).mono ?_
 rintro e w' ⟨h1,h2⟩
 have e1:(Lib.fields s.data.toList).length=L.length:=by rw [<- hL,List.length_map]
 rw [e1] at h1
 refine ⟨h1,?_⟩
 rw [h2,<- hL,List.map_map]
 rfl
theorem index_any {p:Nat->Prop} {w:World} {b o c:Nat} {L:List ByteArray} (h:SlV strF p w (.slice (some ⟨b,o,none⟩) L.length c) L) (x:ByteArray) :
 Calls Tryz.prog 91 #[.slice (some ⟨b,o,none⟩) L.length c,.string x] w fun e w'=>e=.returned (.int .i64 (Lib.idxOfS L x))/\w=w':=by
 obtain ⟨_,_,h3,h4⟩:=h.row
 refine (Tryz.slices_Index_string b o L.length c L x w (jR _) (by omega) (fun j hj=>?_)).mono ?_
 · have:=h4.flat j hj 0 (by decide)
   simp only [strEnc,List.getElem?_cons_zero,Nat.mul_one,Nat.add_zero] at this
   rw [this]
   simp [List.getD_eq_getElem?_getD,hj]
 · rintro e w' ⟨h1,h2⟩
   rw [List.take_length] at h1
   exact ⟨h1,h2.symm⟩
theorem idx_from (x:ByteArray):∀ (L:List ByteArray) (i:Nat),Lib.idxFromS L x i=(match L.findIdx? (decide <| ·=x) with|some k=>((i+k:Nat):Int)|none=>-1)
 | [],i=>by simp [Lib.idxFromS]
 | z :: L,i=>by
  unfold Lib.idxFromS
  rw [List.findIdx?_cons]
  by_cases h:z=x
  · simp [h]
  · simp only [h,decide_false,Bool.false_eq_true,if_false,beq_iff_eq]
    rw [idx_from x L (i+1)]
    cases L.findIdx? (decide <| ·=x) with
    | none=>rfl
    | some k=>simp only [Option.map_some];congr 1;omega
theorem idx_bd (L:List ByteArray) (x:ByteArray):-1<=Lib.idxOfS L x/\Lib.idxOfS L x<L.length:=by
 unfold Lib.idxOfS
 rw [idx_from]
 cases h:L.findIdx? (decide <| ·=x) with
 | none=>simp only;omega
 | some k =>
  have:=(List.findIdx?_eq_some_iff_getElem.1 h).1
  simp only
  omega
def WordsD (L:List ByteArray) (u:Value) (w':World):Prop:=∃ g,u=.slice (some ⟨g,0,none⟩) L.length L.length/\SlV strF (fun k=>k=g) w' (.slice (some ⟨g,0,none⟩) L.length L.length) L
theorem WordsD.below {L:List ByteArray} {u:Value} {w w':World} (h:WordsD L u w) (hb:Below w.heap.size w w'):WordsD L u w':=by
 obtain ⟨g,h1,h2⟩:=h
 exact ⟨g,h1,h2.below hb⟩
theorem op_idx (t:Tok):opI t=if t.kind=4 then 1+Lib.idxOfS [w_eq,w_ne,w_lt,w_le,w_gt,w_ge] t.text else 0:=by
 unfold opI Lib.idxOfS
 rw [idx_from]
 by_cases h:t.kind=4
 · simp only [h,beq_self_eq_true,if_true]
   cases [w_eq,w_ne,w_lt,w_le,w_gt,w_ge].findIdx? (decide <| ·=t.text) with
   | none=>rfl
   | some k=>simp only;omega
 · simp [h]
theorem agg_idx (t:Tok):aggI t=if t.kind=1 then 1+Lib.idxOfS [w_count,w_sum,w_min,w_max] t.text else 0:=by
 unfold aggI Lib.idxOfS
 rw [idx_from]
 by_cases h:t.kind=1
 · simp only [h,beq_self_eq_true,if_true]
   cases [w_count,w_sum,w_min,w_max].findIdx? (decide <| ·=t.text) with
   | none=>rfl
   | some k=>simp only;omega
 · simp [h]
end
section
open Go.RowKit
theorem letter_any (c:UInt8) (w:World):Calls Tryz.prog 60 #[.int .u8 (c.toNat:Nat)] w fun e w'=>e=.returned (.bool (letB c))/\w=w':=by
 have HC:=hid (show letB c=(decide (97<=c.toNat) && decide (c.toNat<=122)) from rfl)
 have hb:=c.toNat_lt
 generalize c.toNat=n at *
 go_enter Tryz.func60,Tryz.ntmps60
 by_cases h1:97<=n
 · by_cases h2:n<=122
   · have d2:decide (n<=122)=true:=decide_eq_true h2
     go_wp2_with fail
     go_ret
     exact ⟨by rw [HC.out];first|(simp [h1,h2];done)|(simp [h1,h2];omega),rfl⟩
   · go_wp2_with fail
     go_ret
     exact ⟨by rw [HC.out];first|(simp [h1,h2];done)|(simp [h1,h2];omega),rfl⟩
 · go_wp2_with fail
   go_ret
   exact ⟨by rw [HC.out];first|(simp [h1];done)|(simp [h1];omega),rfl⟩
theorem digit_any (c:UInt8) (w:World):Calls Tryz.prog 63 #[.int .u8 (c.toNat:Nat)] w fun e w'=>e=.returned (.bool (digB c))/\w=w':=by
 have HC:=hid (show digB c=(decide (48<=c.toNat) && decide (c.toNat<=57)) from rfl)
 have hb:=c.toNat_lt
 generalize c.toNat=n at *
 go_enter Tryz.func63,Tryz.ntmps63
 by_cases h1:48<=n
 · by_cases h2:n<=57
   · go_wp2_with fail
     go_ret
     exact ⟨by rw [HC.out];first|(simp [h1,h2];done)|(simp [h1,h2];omega),rfl⟩
   · go_wp2_with fail
     go_ret
     exact ⟨by rw [HC.out];first|(simp [h1,h2];done)|(simp [h1,h2];omega),rfl⟩
 · go_wp2_with fail
   go_ret
   exact ⟨by rw [HC.out];first|(simp [h1];done)|(simp [h1];omega),rfl⟩
theorem inner_any (c:UInt8) (w:World):Calls Tryz.prog 62 #[.int .u8 (c.toNat:Nat)] w fun e w'=>e=.returned (.bool (inB c))/\w=w':=by
 have HC:=hid (show inB c=(letB c || digB c || c == 95) from rfl)
 have con1:=letter_any c
 have con2:=digit_any c
 have hb:=c.toNat_lt
 have h95:(c == 95)=decide (c.toNat=95):=by
  rw [Bool.eq_iff_iff,beq_iff_eq,decide_eq_true_eq]
  exact ⟨fun e=>by rw [e];rfl,fun e=>UInt8.toNat_inj.1 e⟩
 rw [h95] at HC
 clear h95
 generalize c.toNat=n at *
 obtain ⟨l,hl⟩:∃ l,l=letB c:=⟨_,rfl⟩
 obtain ⟨d,hd⟩:∃ d,d=digB c:=⟨_,rfl⟩
 rw [<- hl,<- hd] at HC
 rw [<- hl] at con1
 rw [<- hd] at con2
 clear hl hd
 cases l with
 | true =>
  go_enter Tryz.func62,Tryz.ntmps62
  go_wp2_with (refine (con1 _).mono ?_;rintro e w1 ⟨rfl,rfl⟩)
  go_ret
  exact ⟨by rw [HC.out];rfl,rfl⟩
 | false =>
  cases d with
  | true =>
   go_enter Tryz.func62,Tryz.ntmps62
   go_wp2_with (first|(refine (con1 _).mono ?_;rintro e w1 ⟨rfl,rfl⟩)|(refine (con2 _).mono ?_;rintro e w1 ⟨rfl,rfl⟩))
   go_ret
   exact ⟨by rw [HC.out];rfl,rfl⟩
  | false =>
   have HD:=hid (show inB c=decide ((n:Int)=95) by rw [HC.out,Bool.false_or,Bool.false_or];simp only [decide_eq_decide];omega)
   go_enter Tryz.func62,Tryz.ntmps62
   go_wp2_with (first|(refine (con1 _).mono ?_;rintro e w1 ⟨rfl,rfl⟩)|(refine (con2 _).mono ?_;rintro e w1 ⟨rfl,rfl⟩))
   go_ret
   exact ⟨by rw [HD.out];rfl,rfl⟩
theorem drop_step (s:ByteArray) (k:Nat) (h:k<s.size):s.data.toList.drop k=s[k] :: s.data.toList.drop (k+1):=by
 rw [List.drop_eq_getElem_cons (by simpa using h)]
 rfl
theorem span_step (p:UInt8->Bool) (s:ByteArray) (k:Nat) (h:k<s.size):spanN p (s.data.toList.drop k)=if p s[k]=true then 1+spanN p (s.data.toList.drop (k+1)) else 0:=by
 rw [drop_step s k h]
 unfold spanN
 cases hp:p s[k] with
 | true=>simp [List.takeWhile_cons,hp,Nat.add_comm]
 | false=>simp [List.takeWhile_cons,hp]
theorem while_any (p:UInt8->Bool) {g:FuncId} (eg:∀ args w,(callFunc g args).run Tryz.prog w=.ok (.enter g args) w) (hg:∀ c w,Calls Tryz.prog g #[.int .u8 (c.toNat:Nat)] w fun e w'=>e=.returned (.bool (p c))/\w=w')
 (s:ByteArray) (i:Nat) (hi:i<=s.size) (hs:s.size<=4294967000) (w:World) :
 Calls Tryz.prog 61 #[.string s,.int .i64 i,.func (.func g) #[] #[]] w fun e w'=>e=.returned (.int .i64 ((i+spanN p (s.data.toList.drop i):Nat):Int))/\w=w':=by
 go_enter Tryz.func61,Tryz.ntmps61
 go_wp2_with fail
 go_loopw [1] (fun ii wr=>∃ k:Nat,k<=s.size/\ii=.int .i64 k/\wr=w/\Hid (i+spanN p (s.data.toList.drop i)=k+spanN p (s.data.toList.drop k))) (fun ii _=>s.size - (intOf ii).toNat)
 case atStart=>exact ⟨i,hi,rfl,rfl,rfl⟩
 case round =>
  obtain ⟨k,hk,rfl,rfl,HF⟩:=hrel
  by_cases hlt:k<s.size
  · have HX:=hid (span_step p s k hlt)
    have con:=hg s[k] wr
    cases hp:p s[k] with
    | false =>
     have HR:=hid (show i+spanN p (s.data.toList.drop i)=k by rw [HF.out,HX.out,hp];rfl)
     rw [hp] at con
     clear hp
     go_wp2_with fail
     refine con.mono ?_
     rintro e w1 ⟨rfl,rfl⟩
     clear con
     go_wp2_with fail
     go_ret
     exact ⟨by rw [HR.out];rfl,rfl⟩
    | true =>
     have HR:=hid (show i+spanN p (s.data.toList.drop i)=k+1+spanN p (s.data.toList.drop (k+1)) by rw [HF.out,HX.out,hp];simp only [if_true];omega)
     rw [hp] at con
     clear hp
     go_wp2_with fail
     refine con.mono ?_
     rintro e w1 ⟨rfl,rfl⟩
     clear con
     go_wp2_with fail
     go_roundw
     case rel=>exact ⟨k+1,by omega,by go_num,by first|trivial|rfl,HR.out⟩
     case measure=>simp [intOf];omega
  · have hk2:k=s.size:=by omega
    have HR:=hid (show i+spanN p (s.data.toList.drop i)=k by rw [HF.out,hk2,List.drop_eq_nil_of_le (by simp)];rfl)
    clear hk2
    go_wp2_with fail
    go_ret
    exact ⟨by rw [HR.out];rfl,rfl⟩
end
section
open Go.RowKit
theorem isb_below {T e:TypeId} {B b:Nat} {bs:List Value} {w w':World} (h:Lib.IsBuilderF T e B b bs w) (hb:Below w.heap.size w w'):Lib.IsBuilderF T e B b bs w':=by
 have key:∀ p,Lib.BuilderAtF T e B b p bs w->Lib.BuilderAtF T e B b p bs w':=by
  intro p h
  have hlt:=h.lt
  obtain ⟨h1,v,h2,⟨hl,h3⟩,h4⟩:=h
  refine ⟨h1,v,(hb.block _ hlt).trans h2,⟨hl,?_⟩,h4⟩
  rcases h3 with h3|⟨g,cap,cur,fz,e1,e2,e3,r⟩
  · exact Or.inl h3
  · exact Or.inr ⟨g,cap,cur,fz,e1,e2,(hb.block _ (Array.getElem?_eq_some_iff.1 e3).1).trans e3,r⟩
 exact h.elim (fun x=>Or.inl (key _ x)) (fun x=>Or.inr (key _ x))
theorem isb_new (T e:TypeId) (w:World):Lib.IsBuilderF T e w.heap.size w.heap.size (Lib.byteCells []) (w.alloc (.cells #[.pointer none,.slice none 0 0] T)) :=
 Or.inl ⟨jR _,_,heap_alloc_new w _,World.ownsRowF_nil _ _ _ _,by simp [Value.ownBlock]⟩
def BB (w:World) (l:List UInt8) (w':World):Prop:=Below w.heap.size w w'/\Lib.IsBuilderF 80 5 w.heap.size w.heap.size (Lib.byteCells l) w'
theorem bb_start (w:World):BB w [] (w.alloc (.cells #[.pointer none,.slice none 0 0] 80)):=⟨(b0R).alloc (jR _) _,isb_new _ _ w⟩
theorem wb_any {w w1:World} {l:List UInt8} (c:UInt8) (h:BB w l w1) (hlen:l.length+1<=140737488355328) :
 Calls Tryz.prog 36 #[.pointer (some ⟨w.heap.size,0,none⟩),.int .u8 (c.toNat:Nat)] w1 fun e w'=>e=.returned .nilIface/\BB w (l ++ [c]) w' :=
 (Tryz.Builder_WriteByte_k w.heap.size w.heap.size (Lib.byteCells l) (c.toNat:Nat) w1 h.2 (by simpa [Lib.byteCells] using hlen) h.1.size).mono fun _ _ ⟨h0,h1,h2,_⟩ =>
  ⟨h0,h.1.trans h2,by rw [show Lib.byteCells (l ++ [c])=Lib.byteCells l ++ [.int .u8 (c.toNat:Nat)] by simp [Lib.byteCells]];exact Or.inr h1⟩
theorem len_any {w w1:World} {l:List UInt8} (h:BB w l w1):Calls Tryz.prog 115 #[.pointer (some ⟨w.heap.size,0,none⟩)] w1 fun e w'=>e=.returned (.int .i64 l.length)/\w'=w1 :=
 (Tryz.Builder_Len_f w.heap.size w.heap.size (Lib.byteCells l) w1 h.2).mono fun _ _ ⟨h0,h1⟩=>⟨by rw [h0];simp [Lib.byteCells],h1⟩
theorem string_any {w w1:World} {l:List UInt8} (h:BB w l w1):Calls Tryz.prog 26 #[.pointer (some ⟨w.heap.size,0,none⟩)] w1 fun e w'=>e=.returned (.string ⟨l.toArray⟩)/\Below w.heap.size w w' :=
 (Tryz.Builder_String_any_k w.heap.size w.heap.size l w1 h.2 h.1.size).mono fun _ _ ⟨h0,_,h2,_⟩=>⟨h0,h.1.trans h2⟩
end
end Go.Proofs.YtjcpccadmcglgaaGreatDoor
