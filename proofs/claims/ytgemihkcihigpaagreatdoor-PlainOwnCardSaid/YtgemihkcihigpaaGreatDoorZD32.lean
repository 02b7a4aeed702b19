/- plain.query: the columns told, the rows kept, the values of one row. -/
import Derived.Deep.RegionHeld3
import Derived.Test.YtgemihkcihigpaaGreatDoorZD31
set_option linter.unusedVariables false
set_option linter.unusedSimpArgs false
set_option maxRecDepth 100000
set_option maxHeartbeats 64000000
namespace Go.Proofs.YtgemihkcihigpaaGreatDoor
open Go.Lib (hid)
section
open Go.RowKit
theorem step_append_flat {P:Program} {w:World} {ops:Array Oper} {o:Oper} {a:Act} {K:Act->World->Prop} {Q:Exit->Act->World->Prop} {E:Prop} (hgd:o.guard=none) (s x:Operand) (t:TypeId)
 (ho:o.op=.call { callee:=.builtin .append,args:=#[s,x],argTypes:=#[t,t] })
 (base:Nat) (e:TypeId) (i:TypeInfo) (z:Value) (size bytes:Nat) (ht:P.underlying t=some (.slice e)) (hi:P.info? e=some i) (hz:i.zero=some z)
 (hsize:i.size=size) (hby:i.bytes=bytes) (hzs:z.cells.size=size) (hsz:0<size)
 (v:Value) (n:Nat) (xs:List Value) (hs:a.eval s=v) (hown:w.ownsRow base e size v n xs)
 (ax:Option Addr) (m c:Nat) (news:List Value) (hx:a.eval x=.slice ax m c) (hl:news.length=m * size) (hnil:ax=none->m=0) (hnews:RawAt w ax news) (h1:∀ u ∈ news,u.oneCell'=true)
 (h63:n+m<=maxLen) (hbytes:(n+m) * bytes<=140737488355328) (hbase:base<=w.heap.size)
 (h:∀ v' w',w'.ownsRow base e size v' (n+m) (xs ++ news)->w.grownBy w' v.ownBlock->K (a.put o.dst v') w') :
 if Region.wanted o (yielded ops a.tmps)=true then Oper.wp P o a w K Q else E:=by
 have hw:Region.wanted o (yielded ops a.tmps)=true:=by simp [Region.wanted,hgd]
 rw [if_pos hw]
 cases ax with
 | none =>
  obtain rfl:=hnil rfl
  have hn0:news=[]:=List.eq_nil_of_length_eq_zero (by rw [hl,Nat.zero_mul])
  subst hn0
  have hrun:=run_append_owned_nilc (P:=P) (w:=w) (c:=c) base t o.type e i size ht hi v n xs hown
  unfold Oper.wp
  simp [execOp,ho,resolve,invoke,builtin,hs,hx,hrun,Result.andThen]
  exact h v w (by simpa using hown) (grownBy_refl _ _)
 | some ad =>
  obtain ⟨v',w',hr,h2,h3,_⟩:=run_append_own_at (P:=P) w base t o.type e i z size bytes ht hi hz hsize hby hzs hsz v n xs hown ad m c news hl (fun j u hj=>hnews ad rfl j u hj) h1 h63 hbytes hbase
  unfold Oper.wp
  simp [execOp,ho,resolve,invoke,builtin,hs,hx,hr,Result.andThen]
  exact h v' w' h2 h3
theorem flat_str (L:List ByteArray):L.flatMap strEnc=L.map .string:=by
 induction L with
 | nil=>rfl
 | cons x L ih=>rw [List.flatMap_cons,ih];rfl
theorem told_any {p p':Nat->Prop} {ac ai a:Option Addr} {cc ci c bt:Nat} {T:Tab} {L:List ByteArray} {w:World} (hT:TabV p w (.agg #[.int .i64 T.id,.string T.name,.slice ac T.cols.length cc,.slice ai T.idx.length ci]) T) (hC:T.cols.length<=1000000)
 (hbt:w.heap[bt]? = some (.cells #[.int .i64 T.id,.string T.name,.slice ac T.cols.length cc,.slice ai T.idx.length ci] 75 (0,0))) (hL:SlV strF p' w (.slice a L.length c) L) (hl:L.length<=1000000) :
 Calls Tryz.prog 95 #[.slice a L.length c,.func (.func 94) #[] #[.pointer (some ⟨bt,0,none⟩)]] w fun e w'=>∃ (va:Option Addr) (vc:Nat),e=.returned (.slice va L.length vc)/\Below w.heap.size w w' /\
  w'.ownsRow w.heap.size 3 1 (.slice va L.length vc) L.length ((L.map (colOf T)).map (.int .i64)):=by
 obtain ⟨_,_,_,hr⟩:=hL.row
 refine Calls.mono (apply_si (g:=94) (cb:=#[.pointer (some ⟨bt,0,none⟩)]) (ins:=L.flatMap strEnc) (enters_of Tryz.func94 (by kernel_rfl) rfl) (row_nil hr) (fun h0 ad e=>?_) (row_raw hr) (by rw [flat_len (sz:=1) (fun _=>rfl),Nat.mul_one]) (by omega) (fun k outs _=>outs=((L.take k).map (colOf T)).map (.int .i64)) (by simp) (fun k outs w1 w2 r h _ _=>h) (fun k hk outs w1 b1 hI=>?_)) ?_
 · obtain ⟨b,off,ha,_⟩:=hr.addr (by intro e;rw [e] at h0;cases h0)
   rw [ha] at e;cases e;rfl
 · have hk':k<L.length:=by rwa [flat_len (sz:=1) (fun _=>rfl),Nat.mul_one] at hk
   have e1:(L.flatMap strEnc)[k]=.string L[k]:=by simp [flat_str]
   rw [e1]
   refine Calls.mono (q1_any (hT.below b1) hC ((b1.block _ (jB hbt)).trans hbt) L[k]) ?_
   rintro e w2 ⟨rfl,b2⟩
   refine ⟨_,rfl,b2,?_⟩
   rw [hI,List.take_succ_eq_append_getElem hk',List.map_append,List.map_append]
   rfl
 · rintro e w' ⟨v,outs,rfl,o,b,hI⟩
   rw [List.take_length] at hI
   rw [hI] at o
   obtain ⟨va,vc,rfl,_⟩:=owns_shape' o
   exact ⟨va,vc,rfl,b,o⟩
theorem ints_sl {w:World} {B:Nat} {e:TypeId} {v:Value} {L:List Int} (h:w.ownsRow B e 1 v L.length (L.map (.int .i64))) (hL:L.length<=140737488355328):SlV intR (fun k=>B<=k) w v L:=by
 obtain ⟨a,c,hv,h1,h2,_⟩:=RowAt.of_owns (R:=intR) (p:=fun k=>B<=k) h (fun _ h=>h) (fun t ht=>by
  show List.take 1 (List.drop (t * 1) (L.map (Value.int .i64)))=[.int .i64 L[t]]
  rw [Nat.mul_one,List.drop_eq_getElem_cons (by simpa using ht)]
  simp)
 exact ⟨a,c,hv,h1,hL,h2⟩
theorem del_row0 {ax:Option Addr} {c g:Nat} {cb:Array Value} {w:World} (eg:∀ args w,(callFunc g args).run Tryz.prog w=.ok (.enter g args) w) :
 Calls Tryz.prog 97 #[.slice ax 0 c,.func (.func g) #[] cb] w fun e w'=>e=.returned (.slice ax 0 c)/\Below w.heap.size w w':=by
 have con:=ixf_row (a:=ax) (n:=0) (c:=c) (cb:=cb) (x0:=fun _=>undef) (w:=w) (fun _=>false) eg (by omega) (fun h=>absurd h (by omega)) (fun t ht=>absurd ht (by omega))
 rw [show ixN (fun _=>false) 0=-1 from rfl] at con
 go_enter Tryz.func97,Tryz.ntmps97
 go_wp2_with fail
 refine con.mono ?_
 rintro e w1 ⟨rfl,b1⟩
 have B1:=hid b1
 clear con b1
 go_wp2_with fail
 go_ret
 exact ⟨rfl,B1.out⟩
theorem keptN_rel {α:Type} (Rel:Value->α->Prop) (p:α->Bool) {xs:List Value} {L:List α} (hl:xs.length=L.length) (hR:∀ t (h1:t<xs.length) (h2:t<L.length),Rel xs[t] L[t]) (f:Nat->Bool) (hf:∀ t (h:t<L.length),f t=!p L[t]) :
 ∀ k,k<=L.length->(keptN f xs k).length=((L.take k).filter p).length/\∀ i (h1:i<(keptN f xs k).length) (h2:i<((L.take k).filter p).length),Rel (keptN f xs k)[i] ((L.take k).filter p)[i]
 | 0,_=>⟨by simp [keptN],fun i h1=>by simp [keptN] at h1⟩
 | k+1,hk=>by
  obtain ⟨h1,h2⟩:=keptN_rel Rel p hl hR f hf k (by omega)
  have hkl:k<L.length:=by omega
  have hkx:k<xs.length:=by omega
  have hfk:=hf k hkl
  have et:L.take (k+1)=L.take k ++ [L[k]]:=List.take_succ_eq_append_getElem hkl
  cases hp:p L[k]
  · rw [hp] at hfk
    have e1:=keptN_yes (xs:=xs) (show f k=true from hfk)
    have e2:(L.take (k+1)).filter p=(L.take k).filter p:=by rw [et,List.filter_append];simp [hp]
    refine ⟨by rw [e1,e2];exact h1,fun i i1 i2=>?_⟩
    simp only [e1,e2] at i1 i2 ⊢
    exact h2 i i1 i2
  · rw [hp] at hfk
    have e1:=keptN_no hkx (show f k=false from hfk)
    have e2:(L.take (k+1)).filter p=(L.take k).filter p ++ [L[k]]:=by rw [et,List.filter_append];simp [hp]
    refine ⟨by rw [e1,e2,List.length_append,List.length_append,h1];rfl,fun i i1 i2=>?_⟩
    simp only [e1,e2] at i1 i2 ⊢
    by_cases hi:i<(keptN f xs k).length
    · rw [List.getElem_append_left hi,List.getElem_append_left (by omega)]
      exact h2 i hi (by omega)
    · have e3:i=(keptN f xs k).length:=by rw [List.length_append] at i1;simp at i1;omega
      subst e3
      rw [List.getElem_append_right (jR _),List.getElem_append_right (by omega)]
      simp only [h1,Nat.sub_self,List.getElem_cons_zero]
      exact hR k hkx hkl
end
section
open Go.RowKit
theorem vals_any {q s:Nat->Prop} {a ar:Option Addr} {c cr br:Nat} {N:List Int} {r:List Val} {w:World} (hN:SlV intR s w (.slice a N.length c) N) (hr:SlV valR q w (.slice ar r.length cr) r) (hbr:w.heap[br]? = some (.cells #[.slice ar r.length cr] 35 (0,0)))
 (hrng:∀ n ∈ N,0<=n/\n<(r.length:Int)) (hl:N.length<=2000000) :
 Calls Tryz.prog 102 #[.slice a N.length c,.func (.func 104) #[] #[.pointer (some ⟨br,0,none⟩)]] w fun e w'=>∃ (va:Option Addr) (vc:Nat),e=.returned (.slice va N.length vc)/\Below w.heap.size w w' /\
  w'.ownsRow w.heap.size 55 3 (.slice va N.length vc) N.length ((N.map (valAt r)).flatMap valEnc):=by
 obtain ⟨_,_,_,hrow⟩:=hN.row
 refine Calls.mono (each_iv (g:=104) (cb:=#[.pointer (some ⟨br,0,none⟩)]) (fun t=>N.getD t 0) (enters_of Tryz.func104 (by kernel_rfl) rfl) (by omega) (fun h0=>?_) (fun k outs _=>outs=((N.take k).map (valAt r)).flatMap valEnc) (by simp) (fun k outs w1 w2 r h _ _=>h) (fun k hk outs w1 b1 hI=>?_)) ?_
 · obtain ⟨b,off,ha,_,hb⟩:=hrow.addr (by intro e;rw [e] at h0;cases h0)
   subst ha
   refine ⟨b,off,rfl,hb,fun t ht=>?_⟩
   rw [hrow.int t ht,List.getD_eq_getElem?_getD,List.getElem?_eq_getElem ht]
   rfl
 · obtain ⟨h0,h1⟩:=hrng _ (List.getElem_mem hk)
   have hn:N[k].toNat<r.length:=by omega
   have hc:N.getD k 0=(N[k].toNat:Int):=by rw [List.getD_eq_getElem?_getD,List.getElem?_eq_getElem hk,Option.getD_some];omega
   rw [hc]
   refine Calls.mono (q31_any (hr.below b1) ((b1.block _ (jB hbr)).trans hbr) _ hn) ?_
   rintro e w2 ⟨rfl,b2⟩
   refine ⟨_,_,_,rfl,b2,?_⟩
   have hv:valAt r N[k]=r[N[k].toNat]:=by
    unfold valAt
    rw [List.getD_eq_getElem?_getD,List.getElem?_eq_getElem hn]
    rfl
   rw [hI,List.take_succ_eq_append_getElem hk,List.map_append,List.flatMap_append,List.map_singleton,List.flatMap_singleton,hv]
   rfl
 · rintro e w' ⟨v,outs,rfl,o,b,hI⟩
   rw [List.take_length] at hI
   rw [hI] at o
   obtain ⟨va,vc,rfl,_⟩:=owns_shape' o
   exact ⟨va,vc,rfl,b,o⟩
theorem ints_one (L:List Int):∀ u ∈ L.map (Value.int .i64),u.oneCell'=true:=by
 intro u hu
 obtain ⟨x,_,rfl⟩:=List.mem_map.1 hu
 rfl
theorem q3_any {p q s:Nat->Prop} {ar ab at_:Option Addr} {cr cb ct bb bt:Nat} {r:List Val} {B T:List Int} {w:World} (hr:SlV valR p w (.slice ar r.length cr) r) (hB:SlV intR q w (.slice ab B.length cb) B) (hT:SlV intR s w (.slice at_ T.length ct) T)
 (hb:w.heap[bb]? = some (.cells #[.slice ab B.length cb] 22 (0,0))) (ht:w.heap[bt]? = some (.cells #[.slice at_ T.length ct] 22 (0,0)))
 (hrng:∀ n ∈ B ++ T,0<=n/\n<(r.length:Int)) (hl:B.length<=1000000/\T.length<=1000000) :
 Calls Tryz.prog 101 #[.slice ar r.length cr,.pointer (some ⟨bb,0,none⟩),.pointer (some ⟨bt,0,none⟩)] w fun e w'=>∃ (va:Option Addr) (vc:Nat),e=.returned (.slice va (B.length+T.length) vc)/\Below w.heap.size w w' /\
  w'.ownsRow w.heap.size 55 3 (.slice va (B.length+T.length) vc) (B.length+T.length) (((B ++ T).map (valAt r)).flatMap valEnc):=by
 obtain ⟨i0,hi,hz0,hz1,hz2⟩:=info_parts info_ints
 have HR:=hid hr
 have HB:=hid hB
 have HT:=hid hT
 have HRNG:=hid hrng
 have Hb:=hid hb
 have Ht:=hid ht
 clear hr hB hT hrng hb ht
 go_enter Tryz.func101,Tryz.ntmps101
 go_upto_region 1 with (fail)
 generalize hW:World.alloc _ _=W
 have b0:Below w.heap.size w W:=by rw [<- hW];exact (b0R).alloc (jR _) _
 have HQ:=hid (show W.heap[w.heap.size]? = some (.cells #[.slice ar r.length cr] 35 (0,0)) by rw [<- hW];exact heap_alloc_new _ _)
 have B0:=hid b0
 have y1:=jC ((b0.block _ (jB Hb.out)).trans Hb.out) 0
 have y2:=jC ((b0.block _ (jB Ht.out)).trans Ht.out) 0
 simp only [List.getElem?_toArray,List.getElem?_cons_zero] at y1 y2
 have Y1:=hid y1
 have Y2:=hid y2
 have C1:=hid (show ∀ z,Below W.heap.size W z->Calls Tryz.prog 103 #[.slice ab B.length cb] z fun e w'=>∃ v,e=.returned v/\w'.ownsRow z.heap.size 3 1 v B.length (B.map (.int .i64))/\Below z.heap.size z w' from fun z hz =>
  clone_ints (row_nil HB.out.row.2.2.2) (int_raw (HB.out.below (B0.out.trans (hz.mono B0.out.size))).row.2.2.2) (by simp) (ints_one B) (by omega))
 clear hW b0
 go_region_held3 (fun w'=>w'.cell? ⟨bb,0,none⟩=some (.slice ab B.length cb)/\w'.cell? ⟨bt,0,none⟩=some (.slice at_ T.length ct)) (first|exact ⟨y1,y2⟩|exact ⟨z1,z2⟩|exact ⟨u1,u2⟩|exact ⟨v1,v2⟩)
  (first
   | (go_at_call 103
      refine (C1.out _ (Below.drew b0R)).mono ?_
      rintro e w2 ⟨v,rfl,o2,b2⟩
      have b2':Below W.heap.size W w2:=(Below.drew b0R).trans b2
      have z1:=(b2'.cell (p:=⟨bb,0,none⟩) (World.block_lt_of_cell? W _ Y1.out)).trans Y1.out
      have z2:=(b2'.cell (p:=⟨bt,0,none⟩) (World.block_lt_of_cell? W _ Y2.out)).trans Y2.out
      have O2:=hid o2
      have B2:=hid b2'
      clear o2 b2 b2')
   | (refine step_append_flat rfl _ _ 22 rfl W.heap.size 3 i0 _ 1 8 Tryz.underlying22 hi hz0 hz1 hz2 rfl (by decide) v B.length (B.map (.int .i64)) rfl O2.out at_ T.length ct (T.map (.int .i64)) rfl (by simp) (row_nil HT.out.row.2.2.2) (int_raw (HT.out.below (B0.out.trans (B2.out.mono B0.out.size))).row.2.2.2) (ints_one T) (by unfold maxLen;omega) (by omega) B2.out.size ?_
      intro v' w3 o3 g3
      have b3':Below W.heap.size W w3:=B2.out.grown g3 B2.out.size (fun k hk=>(O2.out.lt k hk).1)
      have u1:=(b3'.cell (p:=⟨bb,0,none⟩) (World.block_lt_of_cell? W _ Y1.out)).trans Y1.out
      have u2:=(b3'.cell (p:=⟨bt,0,none⟩) (World.block_lt_of_cell? W _ Y2.out)).trans Y2.out
      obtain ⟨a3,c3,rfl,_⟩:=owns_shape' o3
      have O3:=hid o3
      have B3:=hid b3'
      clear o3 g3 b3')
   | (go_at_call 102
      have hnl:(B ++ T).length=B.length+T.length:=List.length_append
      have CV:=vals_any (N:=B ++ T) (a:=a3) (c:=c3) (by rw [hnl];exact ints_sl (by rw [hnl,List.map_append];exact O3.out) (by rw [hnl];omega)) (HR.out.below (B0.out.trans (B3.out.mono B0.out.size))) ((B3.out.block _ (jB HQ.out)).trans HQ.out) HRNG.out (by rw [hnl];omega)
      rw [hnl] at CV
      refine CV.mono ?_
      rintro e w4 ⟨va,vc,rfl,b4,o4⟩
      have b4':=B3.out.trans (b4.mono B3.out.size)
      have v1:=(b4'.cell (p:=⟨bb,0,none⟩) (World.block_lt_of_cell? W _ Y1.out)).trans Y1.out
      have v2:=(b4'.cell (p:=⟨bt,0,none⟩) (World.block_lt_of_cell? W _ Y2.out)).trans Y2.out
      have O4:=hid (owns_base o4 (Nat.le_trans B0.out.size B3.out.size))
      have B4:=hid (B0.out.trans (b4'.mono B0.out.size))
      clear o4 b4 b4' CV hnl))
 all_goals (go_wp2_with fail;go_ret;exact ⟨_,_,rfl,B4.out,O4.out⟩)
end
section
open Go.RowKit
theorem stab_eq {α:Type} {f:α->α->Int} (hf:Tot f) {L M:List α} (h:Stab f L M):M=sortBy f L:=by
 obtain ⟨T,rfl,hp,hs⟩:=h
 unfold sortBy
 rw [<- List.mergeSort_zipIdx]
 congr 1
 have key:∀ x y:α × Nat,ltT (fun a b:α × Nat=>decide (f a.1 b.1<0)) (·.2) y x=false->List.zipIdxLE (fun a b=>decide (f a b<=0)) x y=true:=by
  intro x y h
  have a1:=hf.anti x.1 y.1
  have a2:=hf.anti y.1 x.1
  simp only [ltT,Bool.or_eq_false_iff,decide_eq_false_iff_not,Bool.and_eq_false_iff,Bool.not_eq_false',decide_eq_true_eq] at h
  obtain ⟨h1,h2⟩:=h
  unfold List.zipIdxLE
  rw [if_pos (by simp;omega)]
  by_cases h3:f y.1 x.1<=0
  · rw [if_pos (by simpa using h3)]
    rcases h2 with h2|h2
    · omega
    · simp;omega
  · rw [if_neg (by simpa using h3)]
 have tr:∀ a b c:α × Nat,List.zipIdxLE (fun a b=>decide (f a b<=0)) a b=true->List.zipIdxLE (fun a b=>decide (f a b<=0)) b c=true->List.zipIdxLE (fun a b=>decide (f a b<=0)) a c=true :=
  List.zipIdxLE_trans (fun a b c h1 h2=>by simp at *;exact hf.trans a b c h1 h2)
 have tt:∀ a b:α × Nat,(List.zipIdxLE (fun a b=>decide (f a b<=0)) a b || List.zipIdxLE (fun a b=>decide (f a b<=0)) b a)=true :=
  List.zipIdxLE_total (fun a b=>by have:=hf.anti a b;simp;omega)
 refine List.Perm.eq_of_pairwise (le:=fun x y=>List.zipIdxLE (fun a b=>decide (f a b<=0)) x y=true) ?_ (hs.imp (fun h=>key _ _ h)) (List.pairwise_mergeSort tr tt _) (hp.trans (List.mergeSort_perm _ _).symm)
 rintro ⟨a,i⟩ ⟨b,j⟩ ha hb h1 h2
 have ha':=List.mk_mem_zipIdx_iff_getElem?.1 (hp.mem_iff.1 ha)
 have hb':=List.mk_mem_zipIdx_iff_getElem?.1 ((List.mergeSort_perm _ _).mem_iff.1 hb)
 unfold List.zipIdxLE at h1 h2
 simp only [Bool.if_false_right,Bool.and_eq_true,decide_eq_true_eq] at h1 h2
 obtain ⟨h3,h4⟩:=h1
 obtain ⟨h5,h6⟩:=h2
 rw [if_pos h5] at h4
 rw [if_pos h3] at h6
 have hij:i=j:=by simp at h4 h6;omega
 subst hij
 rw [ha'] at hb'
 rw [jI hb']
theorem copies_sl {B:Nat} {w:World} {v:Value} {L:List (List Val)} {outs:List Value} (h:w.ownsRow B 35 1 v L.length outs) (hc:Copies B L L.length outs w) (hl:L.length<=140737488355328) (hr:∀ x ∈ L,x.length<=140737488355328):SlV rowR (fun k=>B<=k) w v L:=by
 obtain ⟨a,c,hv,h1,h2,_⟩:=RowAt.of_owns (R:=rowR) (p:=fun k=>B<=k) h (fun _ h=>h) (fun t ht=>by
  show rowR.ok _ w (List.take 1 (List.drop (t * 1) outs)) L[t]
  have hto:t<outs.length:=by rw [hc.1];exact ht
  have e:List.take 1 (List.drop (t * 1) outs)=[outs[t]]:=by
   rw [Nat.mul_one,List.drop_eq_getElem_cons hto]
   rfl
  rw [e]
  obtain ⟨a2,c2,e2,h8,_,h9⟩:=sl_owned (enc:=valEnc) (sz:=3) (hl:=fun _=>rfl) (hc.2 t hto ht) (hr _ (List.getElem_mem ht))
  exact ⟨a2,c2,by rw [e2],h8,hr _ (List.getElem_mem ht),h9⟩)
 exact ⟨a,c,hv,h1,hl,h2⟩
def toldRow (B T:List Int) (r:List Val):List Val:=(B ++ T).map (valAt r)
theorem rows_told {p q s:Nat->Prop} {a ab at_:Option Addr} {c cb ct bb bt:Nat} {F:List (List Val)} {B T:List Int} {w:World} (hF:SlV rowR p w (.slice a F.length c) F) (hB:SlV intR q w (.slice ab B.length cb) B) (hT:SlV intR s w (.slice at_ T.length ct) T)
 (hb:w.heap[bb]? = some (.cells #[.slice ab B.length cb] 22 (0,0))) (ht:w.heap[bt]? = some (.cells #[.slice at_ T.length ct] 22 (0,0)))
 (hrng:∀ r ∈ F,∀ n ∈ B ++ T,0<=n/\n<(r.length:Int)) (hl:B.length<=1000000/\T.length<=1000000) (hFl:F.length<=1000000) :
 Calls Tryz.prog 57 #[.slice a F.length c,.func (.func 101) #[] #[.pointer (some ⟨bb,0,none⟩),.pointer (some ⟨bt,0,none⟩)]] w fun e w'=>∃ (va:Option Addr) (vc:Nat),e=.returned (.slice va F.length vc)/\Below w.heap.size w w' /\
  SlV rowR (fun k=>w.heap.size<=k) w' (.slice va F.length vc) (F.map (toldRow B T)):=by
 obtain ⟨_,_,_,hrow⟩:=hF.row
 obtain ⟨ins,hin1,hin2,hin3⟩:=rows_raw hrow
 have tl:∀ r,(toldRow B T r).length=B.length+T.length:=fun r=>by simp [toldRow]
 refine Calls.mono (apply_rr (g:=101) (cb:=#[.pointer (some ⟨bb,0,none⟩),.pointer (some ⟨bt,0,none⟩)]) (ins:=ins) (enters_of Tryz.func101 (by kernel_rfl) rfl) (row_nil hrow) (fun h0 ad e=>?_) hin2 hin1 (by omega) (Copies w.heap.size (F.map (toldRow B T))) ⟨rfl,fun t ht=>by cases ht⟩ (fun k outs=>copies_keeps _ _ _ _ _ _ (by decide)) (fun k hk outs w1 b1 hc=>?_)) ?_
 · obtain ⟨b,off,ha,_⟩:=hrow.addr (by intro e;rw [e] at h0;cases h0)
   rw [ha] at e;cases e;rfl
 · have hkl:k<F.length:=by omega
   obtain ⟨ra,rc,hv,hs⟩:=hin3 k hkl hk
   have:=q3_any (w:=w1) (hs.below b1) (hB.below b1) (hT.below b1) ((b1.block _ (jB hb)).trans hb) ((b1.block _ (jB ht)).trans ht) (hrng _ (List.getElem_mem hkl)) hl
   rw [hv]
   refine Calls.mono this ?_
   rintro e w2 ⟨ua,uc,rfl,b2,o2⟩
   refine ⟨ua,_,uc,rfl,b2,by rw [List.length_append,hc.1];rfl,fun t ht hl=>?_⟩
   by_cases htk:t<k
   · have ht':t<outs.length:=by rw [hc.1];exact htk
     rw [List.getElem_append_left ht']
     exact owns_below (hc.2 t ht' hl) b2
   · have:t=k:=by rw [List.length_append,hc.1] at ht;simp at ht;omega
     subst this
     rw [List.getElem_append_right (by rw [hc.1];exact jR _)]
     simp only [hc.1,Nat.sub_self,List.getElem_cons_zero,List.getElem_map,tl]
     exact owns_base o2 b1.size
 · rintro e w' ⟨v,outs,rfl,o,b,hI⟩
   have hml:(F.map (toldRow B T)).length=F.length:=List.length_map ..
   have s:=copies_sl (L:=F.map (toldRow B T)) (by rw [hml];exact o) (by rw [hml];exact hI) (by omega) (fun x hx=>by
    obtain ⟨r,_,rfl⟩:=List.mem_map.1 hx
    rw [tl];omega)
   obtain ⟨va,vc,rfl⟩:=s.shape
   rw [hml] at *
   exact ⟨va,vc,rfl,b,s⟩
theorem q4_nil {ar ab:Option Addr} {cr cb bb:Nat} {w:World} (hb:w.heap[bb]? = some (.cells #[.slice ab 0 cb] 22 (0,0))) :
 Calls Tryz.prog 105 #[.slice ar 0 cr,.pointer (some ⟨bb,0,none⟩)] w fun e w'=>∃ a' c',e=.returned (.slice a' 0 c')/\w'=w:=by
 have t0:=jC hb 0
 simp only [gT,gZ,gS] at t0
 clear hb
 by_cases h:cr=0
 · cases ar with
   | none =>
    go_enter Tryz.func105,Tryz.ntmps105
    go_wp2_with fail
    go_ret
    exact ⟨_,_,rfl,rfl⟩
   | some ad =>
    go_enter Tryz.func105,Tryz.ntmps105
    go_wp2_with fail
    go_ret
    exact ⟨_,_,rfl,rfl⟩
 · cases ar with
   | none =>
    go_enter Tryz.func105,Tryz.ntmps105
    go_wp2_with fail
    go_ret
    exact ⟨_,_,rfl,rfl⟩
   | some ad =>
    go_enter Tryz.func105,Tryz.ntmps105
    go_wp2_with fail
    go_ret
    exact ⟨_,_,rfl,rfl⟩
def Cuts (lo hi m:Nat) (M:List (List Val)) (k:Nat) (outs:List Value) (w:World):Prop :=
 outs.length=k/\∀ t (ht:t<outs.length) (hl:t<M.length),SlV valR (fun b=>lo<=b/\b<hi) w outs[t] (M[t].drop m)
theorem Cuts.push {lo hi m k:Nat} {M:List (List Val)} {outs:List Value} {w w':World} {v:Value} (h:Cuts lo hi m M k outs w) (hk:k<M.length) (hb:Below w.heap.size w w') (hv:SlV valR (fun b=>lo<=b/\b<hi) w' v (M[k].drop m)):Cuts lo hi m M (k+1) (outs ++ [v]) w':=by
 refine ⟨by rw [List.length_append,h.1];rfl,fun t ht hl=>?_⟩
 by_cases htk:t<k
 · have ht':t<outs.length:=by rw [h.1];exact htk
   rw [List.getElem_append_left ht']
   exact (h.2 t ht' hl).below hb
 · have:t=k:=by rw [List.length_append,h.1] at ht;simp at ht;omega
   subst this
   rw [List.getElem_append_right (by rw [h.1];exact jR _)]
   simp only [h.1,Nat.sub_self,List.getElem_cons_zero]
   exact hv
theorem rows_cut {lo:Nat} {a ab:Option Addr} {c cb bb m:Nat} {M:List (List Val)} {w:World} (hM:SlV rowR (fun k=>lo<=k) w (.slice a M.length c) M) (hb:w.heap[bb]? = some (.cells #[.slice ab m cb] 22 (0,0)))
 (hm:∀ r ∈ M,m<=r.length) (hl:M.length<=1000000) (hlo:lo<=w.heap.size) :
 Calls Tryz.prog 57 #[.slice a M.length c,.func (.func 105) #[] #[.pointer (some ⟨bb,0,none⟩)]] w fun e w'=>∃ (va:Option Addr) (vc:Nat),e=.returned (.slice va M.length vc)/\Below w.heap.size w w' /\
  SlV rowR (fun k=>lo<=k) w' (.slice va M.length vc) (M.map (·.drop m)):=by
 obtain ⟨_,_,_,hrow⟩:=hM.bound.row
 obtain ⟨ins,hin1,hin2,hin3⟩:=rows_raw hrow
 refine Calls.mono (apply_rr (g:=105) (cb:=#[.pointer (some ⟨bb,0,none⟩)]) (ins:=ins) (enters_of Tryz.func105 (by kernel_rfl) rfl) (row_nil hrow) (fun h0 ad e=>?_) hin2 hin1 (by omega)
  (Cuts lo w.heap.size m M) ⟨rfl,fun t ht=>by cases ht⟩ (fun k outs w1 w2 r h hr hg=>⟨h.1,fun t ht hl=>(h.2 t ht hl).keep fun k hk hkl=>hg.block k hkl (fun e=>?_)⟩) (fun k hk outs w1 b1 hc=>?_)) ?_
 · obtain ⟨b,off,ha,_⟩:=hrow.addr (by intro e;rw [e] at h0;cases h0)
   rw [ha] at e;cases e;rfl
 · have:=(hr k e.symm).1
   omega
 · have hkl:k<M.length:=by omega
   obtain ⟨ra,rc,hv,hs⟩:=hin3 k hkl hk
   rw [hv]
   have hml:=hm _ (List.getElem_mem hkl)
   have hb1:=(b1.block _ (jB hb)).trans hb
   by_cases h0:M[k].length=0
   · obtain rfl:m=0:=by omega
     rw [h0]
     refine Calls.mono (q4_nil (w:=w1) hb1) ?_
     rintro e w2 ⟨ua,uc,rfl,rfl⟩
     have hd:M[k].drop 0=[]:=by rw [List.drop_zero];exact List.eq_nil_of_length_eq_zero h0
     have hd':(M[k].drop 0).length=0:=by rw [hd];rfl
     exact ⟨ua,0,uc,rfl,Below.refl _ _,hc.push hkl b0R (by rw [hd];exact ⟨_,_,rfl,Nat.zero_le _,Nat.zero_le _,RowAt.nil⟩)⟩
   · have hsp:∀ ad,ra=some ad->ad.spot=none:=fun ad e=>by
      obtain ⟨_,_,_,hr2⟩:=hs.row
      obtain ⟨b,off,ha,_⟩:=hr2.addr (by intro e;rw [e] at h0;exact h0 rfl)
      rw [ha] at e;cases e;rfl
     refine Calls.mono (q4_any (w:=w1) (hs.below b1) hb1 hml hsp) ?_
     rintro e w2 ⟨ua,uc,rfl,s2,rfl⟩
     exact ⟨ua,_,uc,rfl,Below.refl _ _,hc.push hkl b0R s2⟩
 · rintro e w' ⟨v,outs,rfl,o,b,hI⟩
   have hml:(M.map (·.drop m)).length=M.length:=List.length_map ..
   obtain ⟨va,vc,hv,h1,h2,_⟩:=RowAt.of_owns (R:=rowR) (L:=M.map (·.drop m)) (p:=fun k=>lo<=k) (by rw [hml];exact o) (fun k h=>Nat.le_trans hlo h) (fun t ht=>by
    show rowR.ok _ w' (List.take 1 (List.drop (t * 1) outs)) (M.map (·.drop m))[t]
    have htm:t<M.length:=by rw [hml] at ht;exact ht
    have hto:t<outs.length:=by rw [hI.1];exact htm
    have e:List.take 1 (List.drop (t * 1) outs)=[outs[t]]:=by
     rw [Nat.mul_one,List.drop_eq_getElem_cons hto]
     rfl
    rw [e]
    obtain ⟨a2,c2,e2,h8,h7,h9⟩:=(hI.2 t hto htm).weaken (q:=fun k=>lo<=k) (fun k h=>h.1)
    simp only [List.getElem_map]
    exact ⟨a2,c2,by rw [e2],h8,h7,h9⟩)
   rw [hml] at hv
   exact ⟨va,vc,by rw [hv],b,va,vc,by rw [hml],h1,by omega,h2⟩
end
section
open Go.RowKit
theorem told_any' {p p':Nat->Prop} {ac ai a:Option Addr} {cc ci c bt:Nat} {T:Tab} {L:List ByteArray} {N:List Int} {w:World} (hT:TabV p w (.agg #[.int .i64 T.id,.string T.name,.slice ac T.cols.length cc,.slice ai T.idx.length ci]) T) (hC:T.cols.length<=1000000)
 (hbt:w.heap[bt]? = some (.cells #[.int .i64 T.id,.string T.name,.slice ac T.cols.length cc,.slice ai T.idx.length ci] 75 (0,0))) (hL:SlV strF p' w (.slice a L.length c) L) (hl:L.length<=1000000) (hN:L.map (colOf T)=N) :
 Calls Tryz.prog 95 #[.slice a L.length c,.func (.func 94) #[] #[.pointer (some ⟨bt,0,none⟩)]] w fun e w'=>∃ (va:Option Addr) (vc:Nat),e=.returned (.slice va N.length vc)/\Below w.heap.size w w' /\
  SlV intR (fun k=>w.heap.size<=k) w' (.slice va N.length vc) N:=by
 subst hN
 refine Calls.mono (told_any hT hC hbt hL hl) ?_
 rintro e w' ⟨va,vc,rfl,b,o⟩
 have hlen:(L.map (colOf T)).length=L.length:=List.length_map ..
 rw [<- hlen] at o ⊢
 exact ⟨va,vc,rfl,b,ints_sl o (by omega)⟩
theorem below_of_grown {B:Nat} {w w1:World} {r:Option Nat} (hB:B<=w.heap.size) (h:w.grownBy w1 r) (hr:∀ k,r=some k->B<=k):Below B w w1:=(Below.refl B w).grown h hB hr
theorem kept_any {B bt bs:Nat} {ac ai aw:Option Addr} {cc ci cw:Nat} {T:Tab} {W:List Cond} {L:List (List Val)} {ins:List Value} {v:Value} {w:World} (hB:B<=w.heap.size) (ho:w.ownsRow B 35 1 v L.length ins)
 (hins:∀ t (h1:t<L.length) (h2:t<ins.length),∃ ra rc,ins[t]=.slice ra L[t].length rc/\SlV valR (fun k=>k<B) w (.slice ra L[t].length rc) L[t])
 (hT:TabV (fun k=>k<B) w (.agg #[.int .i64 T.id,.string T.name,.slice ac T.cols.length cc,.slice ai T.idx.length ci]) T) (hC:T.cols.length<=1000000)
 (hW:SlV condR (fun k=>k<B) w (.slice aw W.length cw) W) (hK:∀ w1,Below B w w1->KindsAt w1) (hl:L.length<=1000000000000)
 (hbt:w.heap[bt]? = some (.cells #[.int .i64 T.id,.string T.name,.slice ac T.cols.length cc,.slice ai T.idx.length ci] 75 (0,0))) (hbtB:bt<B) (hbs:w.cell? ⟨bs,7,none⟩=some (.slice aw W.length cw)) (hbsB:bs<B) :
 Calls Tryz.prog 97 #[v,.func (.func 99) #[] #[.pointer (some ⟨bt,0,none⟩),.pointer (some ⟨bs,0,none⟩)]] w fun e w'=>∃ (va:Option Addr) (vc:Nat),e=.returned (.slice va (L.filter (fitsW T W)).length vc)/\Below B w w' /\
  SlV rowR (fun _=>True) w' (.slice va (L.filter (fitsW T W)).length vc) (L.filter (fitsW T W)):=by
 have hil:ins.length=L.length:=by have:=ho.1;omega
 have eg:∀ args w,(callFunc 99 args).run Tryz.prog w=.ok (.enter 99 args) w:=enters_of Tryz.func99 (by kernel_rfl) rfl
 by_cases h0:L.length=0
 · obtain rfl:L=[]:=List.eq_nil_of_length_eq_zero h0
   obtain ⟨a,c,rfl,_⟩:=owns_shape' ho
   refine Calls.mono (del_row0 eg) ?_
   rintro e w' ⟨rfl,b⟩
   exact ⟨a,c,rfl,b.mono hB,a,c,rfl,Nat.zero_le _,Nat.zero_le _,RowAt.nil⟩
 · obtain ⟨g,c,rfl,hg⟩:∃ g c,v=.slice (some ⟨g,0,none⟩) L.length c/\B<=g:=by
    rcases ho.2 with ⟨_,e⟩|⟨g,c,cur,e,hg,_⟩
    · exact absurd e h0
    · exact ⟨g,c,e,hg⟩
   refine Calls.mono (del_row (cb:=#[.pointer (some ⟨bt,0,none⟩),.pointer (some ⟨bs,0,none⟩)]) (fun t=>!fitsW T W (rAt L t)) eg hl (by omega) ho (fun t ht=>?_) (fun t ht w1 g1=>?_)) ?_
   · obtain ⟨ra,rc,e,_⟩:=hins t (by omega) ht
     exact ⟨ra,_,rc,e⟩
   · have htl:t<L.length:=by omega
     obtain ⟨ra,rc,e,s⟩:=hins t htl ht
     have hb:Below B w w1:=below_of_grown hB g1 (fun k e=>by cases e;exact hg)
     rw [e,rAt_eq htl]
     exact q2_any (cs:=#[]) (hT.keep fun k h _=>hb.block k h) hC (s.keep fun k h _=>hb.block k h) (hW.keep fun k h _=>hb.block k h) (hK w1 hb) ((hb.block _ hbtB).trans hbt) ((World.cell?_of_block (hb.block bs hbsB)).trans hbs)
   · rintro e w' ⟨rfl,g1,o1⟩
     have hb:Below B w w':=below_of_grown hB g1 (fun k e=>by cases e;exact hg)
     obtain ⟨h1,h2⟩:=keptN_rel (fun u r=>∃ ra rc,u=.slice ra r.length rc/\SlV valR (fun k=>k<B) w (.slice ra r.length rc) r) (fitsW T W) hil (fun t k1 k2=>hins t k2 k1) (fun t=>!fitsW T W (rAt L t)) (fun t h=>by rw [rAt_eq h]) L.length (jR _)
     rw [List.take_length] at h1
     rw [h1] at o1 ⊢
     obtain ⟨va,vc,hv,h3,h4,_⟩:=RowAt.of_owns (R:=rowR) (p:=fun _=>True) o1 (fun _ _=>trivial) (fun t ht=>by
      have hto:t<(keptN (fun t=>!fitsW T W (rAt L t)) ins L.length).length:=by rw [h1];exact ht
      show rowR.ok _ w' (List.take 1 (List.drop (t * 1) (keptN (fun t=>!fitsW T W (rAt L t)) ins L.length))) _
      have e:List.take 1 (List.drop (t * 1) (keptN (fun t=>!fitsW T W (rAt L t)) ins L.length))=[(keptN (fun t=>!fitsW T W (rAt L t)) ins L.length)[t]]:=by
       rw [Nat.mul_one,List.drop_eq_getElem_cons hto]
       rfl
      rw [e]
      obtain ⟨ra,rc,e2,s2⟩:=h2 t hto (by rw [List.take_length];exact ht)
      rw [e2]
      obtain ⟨a2,c2,e3,h8,h7,h9⟩:=(s2.keep (w':=w') fun k h _=>hb.block k h).weaken (q:=fun _=>True) (fun _ _=>trivial)
      simp only [List.take_length] at e3 h8 h7 h9 ⊢
      exact ⟨a2,c2,by rw [e3],h8,h7,h9⟩)
     rw [hv]
     have hfl:=List.length_filter_le (fitsW T W) L
     exact ⟨va,vc,rfl,hb,va,vc,rfl,h3,by omega,h4⟩
end
section
open Go Go.RowKit Go.Sort
def insRev {α:Type} (f:α->α->Int) (x:α):List α->List α
 | []=>[x]
 | y :: R=>if f x y<0 then y :: insRev f x R else x :: y :: R
def insAll {α:Type} (f:α->α->Int) (R L:List α):List α:=L.foldl (fun R x=>insRev f x R) R
def TagOk {α:Type} (f:α->α->Int) (a b:α × Nat):Prop:=ltT (fun a b:α × Nat=>decide (f a.1 b.1<0)) (·.2) a b=false
end
section
open Go.RowKit Go.Sort
def srt {α:Type} (f:α->α->Int) (L:List α) (i:Nat):List α:=(insAll f [] (L.take i)).reverse
def insAt {α:Type} (S:List α) (x:α) (k:Nat):List α:=S.take k ++ x :: S.drop k
theorem owns_new (w:World) (e:TypeId) (sz:Nat):(w.alloc (.cells #[] e)).ownsRow w.heap.size e sz (.slice (some ⟨w.heap.size,0,none⟩) 0 0) 0 [] :=
 ⟨by simp,Or.inr ⟨w.heap.size,0,#[],rfl,jR _,heap_alloc_new _ _,jR _,Nat.zero_le _,by simp,by simp⟩⟩
theorem own_block {w:World} {B g n c:Nat} {e:TypeId} {xs:List Value} (h:w.ownsRow B e 1 (.slice (some ⟨g,0,none⟩) n c) n xs):B<=g/\∃ cur,w.heap[g]? = some (.cells cur e (0,0)):=by
 rcases h.2 with ⟨e1,_⟩|⟨g',cap,cur,e1,hB,hg,_⟩
 · cases e1
 · simp only [Value.slice.injEq,Option.some.injEq,Addr.mk.injEq,and_true,true_and] at e1
   obtain ⟨rfl,_⟩:=e1
   exact ⟨hB,cur,hg⟩
theorem own_form {w:World} {B n sz:Nat} {e:TypeId} {v:Value} {xs:List Value} (h:w.ownsRow B e sz v (n+1) xs):∃ g cap,v=.slice (some ⟨g,0,none⟩) (n+1) cap:=by
 rcases h.2 with ⟨_,e1⟩|⟨g,cap,_,e1,_⟩
 · cases e1
 · exact ⟨g,cap,e1⟩
end
section
open Go.RowKit
def cutTo (L:List (List Val)) (k:Nat):List (List Val):=(L.take k).map (·.take 5)
def cutV (L:List (List Val)):List (List Val):=cutTo L (min L.length 20)
def NewE (w:World) (u:Value) (w':World):Prop:=∃ q,u=.slice (some ⟨q,0,none⟩) 0 0/\w.heap.size<=q/\w'.heap[q]? = some (.cells #[] 55 (0,0))/\Below w.heap.size w w'
def OwnR (w:World) (X:List Val) (u:Value) (w':World):Prop:=∃ ua uc,u=.slice ua X.length uc/\w'.ownsRow w.heap.size 55 3 u X.length (X.flatMap valEnc)/\Below w.heap.size w w'
def NewS (w:World) (Y:List Val) (ua:Option Addr) (uc:Nat) (u:Value) (w':World):Prop:=∃ g,u=.slice (some ⟨g,0,none⟩) 1 1/\w'.heap[g]? = some (.cells #[.slice ua Y.length uc] 35 (0,0))/\OwnR w Y (.slice ua Y.length uc) w'
end
end Go.Proofs.YtgemihkcihigpaaGreatDoor
