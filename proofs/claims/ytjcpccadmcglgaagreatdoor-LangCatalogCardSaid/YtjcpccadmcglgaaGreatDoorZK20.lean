/- catalog.names and catalog.Col. -/
import Derived.Test.YtjcpccadmcglgaaGreatDoorZK14
import Derived.Test.YtjcpccadmcglgaaGreatDoorZK2
import Derived.Test.YtjcpccadmcglgaaGreatDoorZK19
import Derived.Test.YtjcpccadmcglgaaGreatDoorZK13
set_option linter.unusedVariables false
set_option linter.unusedSimpArgs false
set_option maxRecDepth 100000
set_option maxHeartbeats 64000000
namespace Go.Proofs.YtjcpccadmcglgaaGreatDoor
open Go.Lib (hid)
section
open Go.RowKit
theorem cnames_any {p:Nat->Prop} {a:Option Addr} {c:Nat} {C:List (ByteArray × Int)} {w:World} (h:SlV colR p w (.slice a C.length c) C) (hC:C.length<=1000000) :
 Calls Tryz.prog 93 #[.slice a C.length c] w fun e w'=>∃ a' c',e=.returned (.slice a' C.length c')/\Below w.heap.size w w'/\SlV strF (fun k=>w.heap.size<=k) w' (.slice a' C.length c') (C.map (·.1)):=by
 obtain ⟨_,_,_,hr⟩:=h.row
 obtain ⟨i0,hi,hz0,hz1,hz2⟩:=info_parts info_ais
 have HR:=hid hr
 clear h hr
 go_enter Tryz.func93,Tryz.ntmps93
 go_wp2_with fail
 go_loopw [2,7] (fun x ii wr=>∃ (k:Nat) (v:Value),k<=C.length/\ii=.int .i64 k/\v=x/\Hid (OneAt w.heap.size w 9 1 v k (((C.take k).map (·.1)).flatMap strEnc) wr)) (fun _ ii _=>C.length - (intOf ii).toNat)
 case atStart=>exact ⟨0,_,Nat.zero_le _,rfl,rfl,World.ownsRow_nil _ _ _ _,Below.refl _ _⟩
 case round =>
  obtain ⟨k,v,hk,rfl,rfl,HO⟩:=hrel
  by_cases hlt:k<C.length
  · obtain ⟨bb,oo,rfl,_,hbb⟩:=HR.out.addr (by intro e;rw [e] at hlt;cases hlt)
    have c0:=(HO.out.b.cell (p:=⟨bb,oo+k * 2,none⟩) hbb).trans (HR.out.col k hlt).1
    have c1:=(HO.out.b.cell (p:=⟨bb,oo+k * 2+1,none⟩) hbb).trans (HR.out.col k hlt).2
    have HTK:=hid (show ((C.take (k+1)).map (·.1)).flatMap strEnc=((C.take k).map (·.1)).flatMap strEnc ++ [.string C[k].1] by
     rw [List.take_succ_eq_append_getElem hlt,List.map_append,List.flatMap_append];rfl)
    obtain ⟨nm,hnm⟩:∃ nm,nm=C[k].1:=⟨_,rfl⟩
    obtain ⟨kd,hkd⟩:∃ kd,kd=C[k].2:=⟨_,rfl⟩
    rw [<- hnm] at c0 HTK
    rw [<- hkd] at c1
    clear hnm hkd
    go_upto_region 4 with (fail)
    generalize hW:World.alloc _ _=W
    have hb:Below wr.heap.size wr W:=by rw [<- hW];exact (b0R).alloc (jR _) _
    have hq:W.heap[wr.heap.size]? = some (.cells #[.string nm,.int .i64 kd] 62 (0,0)):=by rw [<- hW];exact heap_alloc_new _ _
    have q0:=jC hq 0
    simp only [List.getElem?_toArray,List.getElem?_cons_zero] at q0
    have O2:=hid (HO.out.below hb HO.out.b.size)
    have hs2:=O2.out.b.size
    clear hW hq hb c0 c1
    go_wp2_with (at_builtin;go_loud (refine wpList_append_own_at _ rfl _ _ 27 rfl w.heap.size 9 i0 _ 1 16 Tryz.underlying27 hi hz0 hz1 hz2 rfl (by decide) v k _ rfl (O2.out.m.alloc _) ⟨W.heap.size,0,none⟩ 1 1 [.string nm] rfl rfl (fun j u hj=>by rw [addr_add,jC (heap_alloc_new _ _)];simpa using hj) (fun u hu=>by rw [List.mem_singleton.1 hu];rfl) (by unfold maxLen;omega) (by omega) (by simp;omega) ?_;intro v' w3 o1 g1 hx1 at1;clear hx1 at1;have N3:=hid ((O2.out.below ((b0R).alloc (jR _) _) hs2).push (by simp;omega) o1 g1);clear o1 g1))
    go_roundw
    case rel=>exact ⟨k+1,_,by omega,by go_num,rfl,by rw [HTK.out];exact N3⟩
    case measure=>simp [intOf];omega
  · have hkn:k=C.length:=by omega
    have HF:=hid (show w.heap.size<=wr.heap.size/\OneAt w.heap.size w 9 1 v C.length ((C.map (·.1)).flatMap strEnc) wr from ⟨HO.out.b.size,by have:=HO.out;rw [hkn,List.take_length] at this;exact this⟩)
    obtain ⟨a',c',hv,_⟩:=owns_shape' HF.out.2.m
    rw [hv] at HF ⊢
    clear HO hv hkn
    go_wp2_with fail
    go_ret
    have hfin:SlV strF (fun k=>w.heap.size<=k) wr (.slice a' C.length c') (C.map (·.1)):=sl_owned (hl:=fun _=>rfl) (enc:=strEnc) (sz:=1) (by have:=HF.out.2.m;simpa using this) (by simp;omega)
    exact ⟨a',c',rfl,HF.out.2.b,hfin⟩
theorem idxOfS_eq (l:List ByteArray) (x:ByteArray):Lib.idxOfS l x=idxOf (fun c=>sEq c x) l:=by
 have key:∀ (l:List ByteArray) (i:Nat),Lib.idxFromS l x i=if idxOf (fun c=>sEq c x) l<0 then -1 else (i:Int)+idxOf (fun c=>sEq c x) l:=by
  intro l
  induction l with
  | nil=>intro i;rfl
  | cons z l ih =>
   intro i
   rw [Lib.idxFromS]
   by_cases h:z=x
   · have e:idxOf (fun c=>sEq c x) (z :: l)=0:=idxOf_hit (k:=0) (by simp) (by simpa using (sEq_iff z x).2 h) (fun t ht=>by omega)
     rw [e]
     simp [h]
   · have hz:sEq z x=false:=by
      cases hs:sEq z x
      · rfl
      · exact absurd ((sEq_iff z x).1 hs) h
     have e:idxOf (fun c=>sEq c x) (z :: l)=if idxOf (fun c=>sEq c x) l<0 then -1 else idxOf (fun c=>sEq c x) l+1:=by
      by_cases hn:idxOf (fun c=>sEq c x) l<0
      · rw [if_pos hn]
        refine idxOf_miss (fun t ht=>?_)
        cases t with
        | zero=>exact hz
        | succ t=>exact idxOf_neg _ _ hn _ (List.getElem_mem (by simpa using ht))
      · rw [if_neg hn]
        obtain ⟨k,hk,h3,h4,h5⟩:=idxOf_spec (fun c=>sEq c x) l (by omega)
        rw [h3]
        have:=idxOf_hit (p:=fun c=>sEq c x) (L:=z :: l) (k:=k+1) (by simpa using hk) (by simpa using h4) (fun t ht=>by
         cases t with
         | zero=>exact hz
         | succ t=>exact h5 t (by omega))
        rw [this];omega
     rw [e,ih]
     have hb:=(idxOf_bd (fun c=>sEq c x) l).1
     by_cases hn:idxOf (fun c=>sEq c x) l<0
     · simp [hn,h]
     · simp [hn,h]
       split <;> omega
 have hb:=(idxOf_bd (fun c=>sEq c x) l).1
 unfold Lib.idxOfS
 rw [key]
 split <;> omega
theorem idxOf_map {α β:Type} (f:α->β) (p:β->Bool) (L:List α):idxOf p (L.map f)=idxOf (fun x=>p (f x)) L:=by
 unfold idxOf
 rw [List.findIdx?_map]
 rfl
theorem pcol_any {p:Nat->Prop} {tv:Value} {T:Tab} {w:World} (h:TabV p w tv T) (hC:T.cols.length<=1000000) (name:ByteArray) :
 Calls Tryz.prog 102 #[tv,.string name] w fun e w'=>e=.returned (.int .i64 (colOf T name))/\Below w.heap.size w w':=by
 obtain ⟨ac,cc,ai,ci,rfl,h1,_⟩:=h
 have H1:=hid (h1.below ((Below.refl w.heap.size w).alloc (jR _) (.cells #[.int .i64 T.id,.string T.name,.slice ac T.cols.length cc,.slice ai T.idx.length ci] 90)))
 clear h1
 go_enter Tryz.func102,Tryz.ntmps102
 go_wp2_with fail
 refine (cnames_any H1.out hC).mono ?_
 rintro e w2 ⟨a',c',rfl,b2,s2⟩
 have hidx:Lib.idxOfS (T.cols.map (·.1)) name=colOf T name:=by rw [idxOfS_eq,idxOf_map];rfl
 have B2:=hid (((Below.refl w.heap.size w).alloc (jR _) (.cells #[.int .i64 T.id,.string T.name,.slice ac T.cols.length cc,.slice ai T.idx.length ci] 90)).trans (b2.mono (by simp)))
 have con:Calls Tryz.prog 91 #[.slice a' T.cols.length c',.string name] w2 fun e w'=>e=.returned (.int .i64 (colOf T name))/\w'=w2:=by
  obtain ⟨_,_,hl,hr⟩:=(show SlV strF _ w2 (.slice a' T.cols.length c') (T.cols.map (·.1)) from s2).row
  rcases Nat.eq_zero_or_pos T.cols.length with h0|h0
  · have h00:T.cols=[]:=List.eq_nil_of_length_eq_zero h0
    have:=Tryz.slices_Index_string_empty a' c' name w2
    rw [<- hidx,h00]
    exact this
  · obtain ⟨b,off,rfl,_,_⟩:=hr.addr (by intro e;rw [List.map_eq_nil_iff] at e;rw [e] at h0;simp at h0)
    have:=Tryz.slices_Index_string b off T.cols.length c' (T.cols.map (·.1)) name w2 (by simp) (by omega) (fun j hj=>by
     have h5:=hr.flat j hj 0 (by decide)
     rw [List.getD_eq_getElem?_getD,List.getElem?_eq_getElem hj]
     simpa [strEnc] using h5)
    rw [show (T.cols.map (·.1)).take T.cols.length=T.cols.map (·.1) from List.take_of_length_le (by simp),hidx] at this
    exact this
 clear b2 s2 hidx
 go_wp2_with fail
 refine con.mono ?_
 rintro e w3 ⟨rfl,rfl⟩
 clear con
 go_wp2_with fail
 go_ret
 exact ⟨rfl,B2.out⟩
end
section
open Go.RowKit
theorem flat_part {α:Type} {enc:α->List Value} {sz:Nat} (hl:∀ x,(enc x).length=sz):∀ (M:List α) (t:Nat) (ht:t<M.length),List.take sz (List.drop (t * sz) (M.flatMap enc))=enc M[t]
 | [],t,ht=>by cases ht
 | x :: M,0,_=>by
  rw [List.flatMap_cons]
  simp only [Nat.zero_mul,List.drop_zero,List.getElem_cons_zero]
  rw [List.take_append_of_le_length (by rw [hl];exact jR _),List.take_of_length_le (by rw [hl];exact jR _)]
 | x :: M,t+1,ht=>by
  rw [List.flatMap_cons]
  have e2:(t+1) * sz=(enc x).length+t * sz:=by rw [Nat.add_mul,Nat.one_mul,hl];omega
  have e3:List.drop ((enc x).length+t * sz) (enc x ++ M.flatMap enc)=List.drop (t * sz) (M.flatMap enc):=by simp [List.drop_append]
  rw [e2,e3]
  simpa using flat_part hl M t (by simpa using ht)
theorem owns_set {w:World} {B:Nat} {e:TypeId} {sz:Nat} {v:Value} {n:Nat} {xs:List Value} {p:Addr} {x:Value} (h:w.ownsRow B e sz v n xs) (hp:p.block<B):(w.setCell p x).ownsRow B e sz v n xs:=by
 have hb:Below p.block w (w.setCell p x):=(b0R).setCell (jR _) x
 refine h.kept (row:=some p.block) ⟨hb.os,hb.tape,hb.output,hb.size,fun c _ hc=>?_⟩ ?_
 · exact Below.heap_setCell w p x c (fun e=>hc (by rw [e]))
 · cases hv:v.ownBlock with
   | none=>left;rfl
   | some k =>
    right
    have:=(h.lt k hv).1
    intro e
    simp only [Option.some.injEq] at e
    omega
theorem keeps_owns {B':Nat} {T:TypeId} {B:Nat} {e:TypeId} {sz:Nat} {v:Value} {n:Nat} {xs:List Value} (hT:e ≠ T):Keeps B' T (fun w=>w.ownsRow B e sz v n xs):=by
 intro w1 w2 r h hr hg
 refine h.kept hg ?_
 rcases h.2 with ⟨e',_⟩|⟨g,cap,cur,e',_,hgb,_⟩
 · left;rw [e'];rfl
 · right
   rw [e']
   intro e2
   have e3:r=some g:=by rw [<- e2];rfl
   exact hT ((hr g e3).2 _ _ _ hgb)
theorem ints_owned {w:World} {B:Nat} {v:Value} {L:List Int} (h:w.ownsRow B 3 1 v L.length (L.map (.int .i64))) (hL:L.length<=140737488355328):SlV intR (fun k=>B<=k) w v L:=by
 obtain ⟨a,c,hv,h3,h4,_⟩:=RowAt.of_owns (R:=intR) (p:=fun k=>B<=k) h (fun _ h=>h) (fun t ht=>by
  show List.take 1 (List.drop (t * 1) (L.map (Value.int .i64)))=[.int .i64 L[t]]
  rw [Nat.mul_one,List.drop_eq_getElem_cons (by simpa using ht)]
  simp)
 exact ⟨a,c,hv,h3,hL,h4⟩
theorem int_raw {p:Nat->Prop} {w:World} {a:Option Addr} {L:List Int} (h:RowAt intR p w a L):RawAt w a (L.map (.int .i64)):=by
 rintro ad rfl j u hj
 rcases h with rfl|⟨b,off,ha,_,_,h⟩
 · simp at hj
 · simp only [Option.some.injEq] at ha
   subst ha
   rw [List.getElem?_map] at hj
   by_cases hl:j<L.length
   · obtain ⟨cs,h1,rfl⟩:=h j hl
     rw [List.getElem?_eq_getElem hl] at hj
     simp only [Option.map_some,Option.some.injEq] at hj
     subst hj
     rw [addr_add]
     simpa [intR] using h1 0 (by simp [intR])
   · rw [List.getElem?_eq_none (by omega)] at hj
     simp at hj
theorem int_cells (L:List Int):∀ u ∈ L.map (Value.int .i64),u.oneCell'=true:=by
 intro u hu
 obtain ⟨x,_,rfl⟩:=List.mem_map.1 hu
 rfl
theorem col_cells (L:List (ByteArray × Int)):∀ u ∈ L.flatMap colEnc,u.oneCell'=true:=by
 intro u hu
 obtain ⟨x,_,hx⟩:=List.mem_flatMap.1 hu
 simp [colEnc] at hx
 rcases hx with rfl|rfl <;> rfl
def ixCells (q:Ix × Value):List Value:=[.string q.1.name,q.2,.int .i64 q.1.root]
def tabCells (q:Tab × Value × Value):List Value:=[.int .i64 q.1.id,.string q.1.name,q.2.1,q.2.2]
def ColOwn (B:Nat) (C:List (ByteArray × Int)) (v:Value) (w:World):Prop:=w.ownsRow B 62 2 v C.length (C.flatMap colEnc)
def IxParts (B:Nat) (L:List Ix) (vs:List Value) (w:World):Prop:=∀ t (_:t<L.length) (_:t<vs.length),w.ownsRow B 3 1 vs[t] L[t].cols.length (L[t].cols.map (.int .i64))
def IxOwn (B:Nat) (L:List Ix) (v:Value) (w:World):Prop:=∃ vs:List Value,vs.length=L.length/\w.ownsRow B 93 3 v L.length ((L.zip vs).flatMap ixCells)/\IxParts B L vs w
def TabParts (B:Nat) (C:List Tab) (vs:List (Value × Value)) (w:World):Prop:=∀ t (_:t<C.length) (_:t<vs.length),ColOwn B C[t].cols vs[t].1 w/\IxOwn B C[t].idx vs[t].2 w
theorem IxParts.below {B:Nat} {L:List Ix} {vs:List Value} {w w':World} (h:IxParts B L vs w) (hb:Below w.heap.size w w'):IxParts B L vs w':=fun t h1 h2=>owns_below (h t h1 h2) hb
theorem IxOwn.below {B:Nat} {L:List Ix} {v:Value} {w w':World} (h:IxOwn B L v w) (hb:Below w.heap.size w w'):IxOwn B L v w':=by
 obtain ⟨vs,h1,h2,h3⟩:=h
 exact ⟨vs,h1,owns_below h2 hb,h3.below hb⟩
theorem IxOwn.base {B B':Nat} {L:List Ix} {v:Value} {w:World} (h:IxOwn B L v w) (hb:B'<=B):IxOwn B' L v w:=by
 obtain ⟨vs,h1,h2,h3⟩:=h
 exact ⟨vs,h1,owns_base h2 hb,fun t k1 k2=>owns_base (h3 t k1 k2) hb⟩
theorem IxOwn.set {B:Nat} {L:List Ix} {v:Value} {w:World} {p:Addr} {x:Value} (h:IxOwn B L v w) (hp:p.block<B):IxOwn B L v (w.setCell p x):=by
 obtain ⟨vs,h1,h2,h3⟩:=h
 exact ⟨vs,h1,owns_set h2 hp,fun t k1 k2=>owns_set (h3 t k1 k2) hp⟩
theorem ixParts_keeps (B B':Nat) (L:List Ix) (vs:List Value) (T:TypeId) (hT:3 ≠ T):Keeps B' T (IxParts B L vs) :=
 fun w1 w2 r h hr hg t k1 k2=>keeps_owns (B':=B') hT w1 w2 r (h t k1 k2) hr hg
theorem ixOwn_keeps (B B':Nat) (L:List Ix) (v:Value) (T:TypeId) (hT:3 ≠ T) (hT2:93 ≠ T):Keeps B' T (IxOwn B L v):=by
 rintro w1 w2 r ⟨vs,h1,h2,h3⟩ hr hg
 exact ⟨vs,h1,keeps_owns (B':=B') hT2 w1 w2 r h2 hr hg,ixParts_keeps B B' L vs T hT w1 w2 r h3 hr hg⟩
theorem tabParts_keeps (B B':Nat) (C:List Tab) (vs:List (Value × Value)) (T:TypeId) (h1:3 ≠ T) (h2:93 ≠ T) (h3:62 ≠ T):Keeps B' T (TabParts B C vs) :=
 fun w1 w2 r h hr hg t k1 k2=>⟨keeps_owns (B':=B') h3 w1 w2 r (h t k1 k2).1 hr hg,ixOwn_keeps B B' _ _ T h1 h2 w1 w2 r (h t k1 k2).2 hr hg⟩
theorem TabParts.below {B:Nat} {C:List Tab} {vs:List (Value × Value)} {w w':World} (h:TabParts B C vs w) (hb:Below w.heap.size w w'):TabParts B C vs w':=fun t h1 h2=>⟨owns_below (h t h1 h2).1 hb,(h t h1 h2).2.below hb⟩
theorem colOwn_sl {B:Nat} {C:List (ByteArray × Int)} {v:Value} {w:World} (h:ColOwn B C v w) (hC:C.length<=140737488355328):SlV colR (fun k=>B<=k) w v C:=sl_owned (enc:=colEnc) (sz:=2) (hl:=fun _=>rfl) h hC
theorem zip_flat {α β:Type} {L:List α} {vs:List β} (hl:vs.length=L.length):(L.zip vs).length=L.length:=by rw [List.length_zip];omega
theorem ixOwn_sl {B:Nat} {L:List Ix} {v:Value} {w:World} (h:IxOwn B L v w) (hL:L.length<=140737488355328) (hc:∀ x ∈ L,x.cols.length<=140737488355328):SlV ixR (fun k=>B<=k) w v L:=by
 obtain ⟨vs,h1,h2,h3⟩:=h
 obtain ⟨a,c,hv,h4,h5,_⟩:=RowAt.of_owns (R:=ixR) (p:=fun k=>B<=k) h2 (fun _ h=>h) (fun t ht=>by
  have hz:t<(L.zip vs).length:=by rw [zip_flat h1];exact ht
  have e:=flat_part (enc:=ixCells) (sz:=3) (fun _=>rfl) (L.zip vs) t hz
  show ixR.ok _ w (List.take 3 (List.drop (t * 3) ((L.zip vs).flatMap ixCells))) L[t]
  rw [e,List.getElem_zip]
  obtain ⟨a',c',hv',k1,_,k2⟩:=ints_owned (h3 t ht (by omega)) (hc _ (List.getElem_mem ht))
  exact ⟨a',c',by show ixCells _=_;unfold ixCells;rw [<- hv'],k1,hc _ (List.getElem_mem ht),k2⟩)
 exact ⟨a,c,hv,h4,hL,h5⟩
theorem tabs_sl {B:Nat} {C:List Tab} {v:Value} {vs:List (Value × Value)} {w:World} (hl:vs.length=C.length) (h:w.ownsRow B 90 4 v C.length ((C.zip vs).flatMap tabCells)) (hp:TabParts B C vs w) (hC:C.length<=140737488355328)
 (hc:∀ t ∈ C,t.cols.length<=140737488355328/\t.idx.length<=140737488355328/\∀ x ∈ t.idx,x.cols.length<=140737488355328):SlV tabR (fun k=>B<=k) w v C:=by
 obtain ⟨a,c,hv,h4,h5,_⟩:=RowAt.of_owns (R:=tabR) (p:=fun k=>B<=k) h (fun _ h=>h) (fun t ht=>by
  have hz:t<(C.zip vs).length:=by rw [zip_flat hl];exact ht
  have e:=flat_part (enc:=tabCells) (sz:=4) (fun _=>rfl) (C.zip vs) t hz
  show tabR.ok _ w (List.take 4 (List.drop (t * 4) ((C.zip vs).flatMap tabCells))) C[t]
  rw [e,List.getElem_zip]
  obtain ⟨c1,c2,c3⟩:=hc _ (List.getElem_mem ht)
  obtain ⟨p1,p2⟩:=hp t ht (by omega)
  obtain ⟨ac,cc,hv1,s1⟩:=colOwn_sl p1 c1
  obtain ⟨ai,ci,hv2,s2⟩:=ixOwn_sl p2 c2 c3
  exact ⟨ac,cc,ai,ci,by show tabCells _=_;unfold tabCells;rw [<- hv1,<- hv2],⟨ac,cc,rfl,s1⟩,⟨ai,ci,rfl,s2⟩⟩)
 exact ⟨a,c,hv,h4,hC,h5⟩
end
section
open Go.RowKit
theorem copied1_any {p:Nat->Prop} {a:Option Addr} {n c:Nat} {nm:ByteArray} {L:List Int} {rt:Int} {w:World} (h:SlV intR p w (.slice a n c) L) (hL:L.length<=1000000) :
 Calls Tryz.prog 110 #[.agg #[.string nm,.slice a n c,.int .i64 rt]] w fun e w'=>∃ (ua:Option Addr) (uc:Nat),e=.returned (.agg #[.string nm,.slice ua L.length uc,.int .i64 rt])/\Below w.heap.size w w'/\w'.ownsRow w.heap.size 3 1 (.slice ua L.length uc) L.length (L.map (.int .i64)):=by
 obtain ⟨rfl,_,_,_⟩:=h.row
 have H:=hid h
 clear h
 go_enter Tryz.func110,Tryz.ntmps110
 go_upto_region 1 with (fail)
 generalize hW:World.alloc _ _=W
 have hA':allocs w [_,_]=W:=hW
 have hq:W.heap[w.heap.size]? = some (.cells #[.string nm,.slice a L.length c,.int .i64 rt] 93 (0,0)):=allocs_get hA' 0 rfl
 have hr:W.heap[w.heap.size+1]? = some (.cells #[.string ⟨#[]⟩,.slice none 0 0,.int .i64 0] 93 (0,0)):=allocs_get hA' 1 rfl
 have hb:=allocs_self hA'
 have hsz:W.heap.size=w.heap.size+2:=by rw [<- hA',allocs_size];rfl
 have BW:=hid hb
 have QW:=hid hq
 have RW:=hid hr
 have HS:=hid hsz
 obtain ⟨_,_,_,hrow⟩:=(H.out.below hb).row
 have con:=clone_ints (w:=W) (c:=c) (n:=L.length) (row_nil hrow) (int_raw hrow) (by simp) (int_cells L) (by omega)
 have q1:=jC hq 1
 simp only [gT,gZ,gS] at q1
 clear hA' hW hq hr hb hrow H hsz
 go_wp2_with fail
 refine con.mono ?_
 rintro e w2 ⟨v,rfl,o2,b2⟩
 obtain ⟨ua,uc,hv,_⟩:=owns_shape' o2
 subst hv
 have O2:=hid o2
 have B2:=hid (BW.out.trans (b2.mono BW.out.size))
 have hq2:=(b2.block _ (jB QW.out)).trans QW.out
 have hr2:=(b2.block _ (jB RW.out)).trans RW.out
 have g0:=jC hq2 0
 have g1:=jC hq2 1
 have g2:=jC hq2 2
 have r0:=jC hr2 0
 have r1:=jC hr2 1
 have r2:=jC hr2 2
 have f1:=free_of hq2 1
 have k0:=free_of hr2 0
 have k1:=free_of hr2 1
 have k2:=free_of hr2 2
 simp only [gT,gZ,gS] at g0 g1 g2 r0 r1 r2
 clear con o2 b2 q1 hq2 hr2
 go_wp2_with fail
 refine bodyPost_ret (v:=.agg #[.string nm,.slice ua L.length uc,.int .i64 rt]) (by simp [results,Tryz.results110,go_sem,g0,g1,g2,r0,r1,r2,f1,k0,k1,k2]) rfl ?_
 refine ⟨ua,uc,rfl,?_,?_⟩
 · exact (((B2.out.setCell (p:=⟨w.heap.size,1,none⟩) (jR _) _).setCell (p:=⟨w.heap.size+1,0,none⟩) (by simp) _).setCell (p:=⟨w.heap.size+1,1,none⟩) (by simp) _).setCell (p:=⟨w.heap.size+1,2,none⟩) (by simp) _
 · have hs:=HS.out
   exact owns_base (owns_set (owns_set (owns_set (owns_set O2.out (p:=⟨w.heap.size,1,none⟩) (by simp;omega)) (p:=⟨w.heap.size+1,0,none⟩) (by simp;omega)) (p:=⟨w.heap.size+1,1,none⟩) (by simp;omega)) (p:=⟨w.heap.size+1,2,none⟩) (by simp;omega)) (by omega)
def IxRows (B:Nat) (L:List Ix) (k:Nat) (outs:List Value) (w:World):Prop:=∃ vs:List Value,vs.length=k/\outs=((L.take k).zip vs).flatMap ixCells/\IxParts B L vs w
theorem ixRows_keeps (B B':Nat) (L:List Ix) (k:Nat) (outs:List Value):Keeps B' 93 (IxRows B L k outs):=by
 rintro w1 w2 r ⟨vs,h1,h2,h3⟩ hr hg
 exact ⟨vs,h1,h2,ixParts_keeps B B' L vs _ (by decide) w1 w2 r h3 hr hg⟩
theorem zip_snoc {α β:Type} {L:List α} {k:Nat} {vs:List β} {v:β} (hk:k<L.length) (hl:vs.length=k):(L.take (k+1)).zip (vs ++ [v])=(L.take k).zip vs ++ [(L[k],v)]:=by
 rw [List.take_succ_eq_append_getElem hk,List.zip_append (by rw [List.length_take];omega)]
 rfl
def ixAt (L:List Ix) (t:Nat):Ix:=(L[t]?).getD ⟨noStr,[],0⟩
theorem ixAt_eq {L:List Ix} {t:Nat} (h:t<L.length):ixAt L t=L[t]:=by
 unfold ixAt
 rw [List.getElem?_eq_getElem h];rfl
theorem copy_ix {p:Nat->Prop} {a:Option Addr} {c:Nat} {L:List Ix} {w:World} (h:SlV ixR p w (.slice a L.length c) L) (hL:L.length<=1000000) (hc:∀ x ∈ L,x.cols.length<=1000000) :
 Calls Tryz.prog 109 #[.slice a L.length c,.func (.func 110) #[] #[]] w fun e w'=>∃ v,e=.returned v/\Below w.heap.size w w'/\IxOwn w.heap.size L v w':=by
 obtain ⟨_,_,_,hrow⟩:=h.row
 have hx:∀ t,∃ q:Option Addr × Nat,∀ (ht:t<L.length),(∀ b off,a=some ⟨b,off,none⟩->w.cell? ⟨b,off+t * 3+1,none⟩=some (.slice q.1 L[t].cols.length q.2))/\SlV intR p w (.slice q.1 L[t].cols.length q.2) L[t].cols:=by
  intro t
  by_cases ht:t<L.length
  · obtain ⟨b,off,rfl,_⟩:=hrow.addr (by intro e;rw [e] at ht;cases ht)
    obtain ⟨ia,ic,_,h1,_,h2⟩:=hrow.ix t ht
    refine ⟨(ia,ic),fun _=>⟨fun b' off' e=>?_,h2⟩⟩
    simp only [Option.some.injEq,Addr.mk.injEq] at e
    obtain ⟨rfl,rfl,_⟩:=e
    exact h1
  · exact ⟨(none,0),fun h=>absurd h ht⟩
 obtain ⟨q,hq⟩:=Classical.axiomOfChoice hx
 refine Calls.mono (each_eix (cb:=#[]) (c:=c) (xs0:=fun t=>(ixAt L t).name) (xa1:=fun t=>(q t).1) (xn1:=fun t=>(ixAt L t).cols.length) (xc1:=fun t=>(q t).2) (xi2:=fun t=>(ixAt L t).root) (enters_of Tryz.func110 (by kernel_rfl) rfl) (by omega) (fun h0=>?_) (IxRows w.heap.size L) ⟨[],rfl,by simp,fun t _ h=>by cases h⟩ (fun k outs=>ixRows_keeps _ _ _ _ _) (fun t ht outs w1 b1 hI=>?_)) ?_
 · obtain ⟨b,off,rfl,_,hbl⟩:=hrow.addr (by intro e;rw [e] at h0;cases h0)
   refine ⟨b,off,rfl,hbl,fun t ht=>?_⟩
   obtain ⟨ia,ic,g0,g1,g2,_⟩:=hrow.ix t ht
   rw [ixAt_eq ht]
   exact ⟨g0,(hq t ht).1 b off rfl,g2⟩
 · rw [ixAt_eq ht]
   refine Calls.mono (copied1_any ((hq t ht).2.below b1) (hc _ (List.getElem_mem ht))) ?_
   rintro e w2 ⟨ua,uc,rfl,b2,o2⟩
   obtain ⟨vs,k1,k2,k3⟩:=hI
   refine ⟨_,ua,_,uc,_,rfl,b2,vs ++ [.slice ua L[t].cols.length uc],by simp [k1],?_,fun s hs hs'=>?_⟩
   · rw [zip_snoc ht k1,List.flatMap_append,<- k2]
     simp [ixCells]
   · by_cases hst:s<t
     · rw [List.getElem_append_left (by omega)]
       exact owns_below (k3 s hs (by omega)) b2
     · have:s=t:=by rw [List.length_append,k1] at hs';simp at hs';omega
       subst this
       rw [List.getElem_append_right (by omega)]
       simp only [k1,Nat.sub_self,List.getElem_cons_zero]
       exact owns_base o2 b1.size
 · rintro e w' ⟨v,outs,rfl,o,b,vs,k1,k2,k3⟩
   refine ⟨v,rfl,b,vs,k1,?_,k3⟩
   rw [List.take_length] at k2
   rw [<- k2]
   exact o
theorem copied_any {p:Nat->Prop} {ac ai:Option Addr} {nc cc ni ci:Nat} {id:Int} {nm:ByteArray} {C:List (ByteArray × Int)} {L:List Ix} {w:World} (h1:SlV colR p w (.slice ac nc cc) C) (h2:SlV ixR p w (.slice ai ni ci) L) (hC:C.length<=1000000) (hL:L.length<=1000000) (hc:∀ x ∈ L,x.cols.length<=1000000) :
 Calls Tryz.prog 58 #[.agg #[.int .i64 id,.string nm,.slice ac nc cc,.slice ai ni ci]] w fun e w'=>∃ (ua:Option Addr) (uc:Nat) (va:Option Addr) (vc:Nat),e=.returned (.agg #[.int .i64 id,.string nm,.slice ua C.length uc,.slice va L.length vc])/\Below w.heap.size w w'/\ColOwn w.heap.size C (.slice ua C.length uc) w'/\IxOwn w.heap.size L (.slice va L.length vc) w':=by
 obtain ⟨rfl,_,_,_⟩:=h1.row
 obtain ⟨rfl,_,_,_⟩:=h2.row
 have H1:=hid h1
 have H2:=hid h2
 have HC:=hid hc
 clear h1 h2 hc
 go_enter Tryz.func58,Tryz.ntmps58
 go_upto_region 1 with (fail)
 generalize hW:World.alloc _ _=W
 have hA':allocs w [_,_]=W:=hW
 have hq:W.heap[w.heap.size]? = some (.cells #[.int .i64 id,.string nm,.slice ac C.length cc,.slice ai L.length ci] 90 (0,0)):=allocs_get hA' 0 rfl
 have hr:W.heap[w.heap.size+1]? = some (.cells #[.int .i64 0,.string ⟨#[]⟩,.slice none 0 0,.slice none 0 0] 90 (0,0)):=allocs_get hA' 1 rfl
 have hb:=allocs_self hA'
 have hsz:W.heap.size=w.heap.size+2:=by rw [<- hA',allocs_size];rfl
 have BW:=hid hb
 have QW:=hid hq
 have RW:=hid hr
 have HS:=hid hsz
 obtain ⟨_,_,_,hrow⟩:=(H1.out.below hb).row
 have con:=clone_cols (w:=W) (c:=cc) (n:=C.length) (row_nil hrow) (row_raw hrow) (flat_len (enc:=colEnc) (sz:=2) (fun _=>rfl) C) (col_cells C) (by omega)
 have q2:=jC hq 2
 simp only [gT,gZ,gS] at q2
 clear hA' hW hq hr hb hrow H1 hsz
 go_wp2_with fail
 refine con.mono ?_
 rintro e w2 ⟨v,rfl,o2,b2⟩
 obtain ⟨ua,uc,hv,_⟩:=owns_shape' o2
 subst hv
 have O2:=hid o2
 have B2:=hid (BW.out.trans (b2.mono BW.out.size))
 have hq2:=(b2.block _ (jB QW.out)).trans QW.out
 have hr2:=(b2.block _ (jB RW.out)).trans RW.out
 have g2:=jC hq2 2
 have f2:=free_of hq2 2
 simp only [gT,gZ,gS] at g2
 have HB2:=hid b2.size
 clear con o2 b2 q2
 go_upto_region 2 with (fail)
 generalize hV:World.setCell _ _ _=V
 have hqV:V.heap[w.heap.size]? = some (.cells #[.int .i64 id,.string nm,.slice ua C.length uc,.slice ai L.length ci] 90 (0,0)):=by rw [<- hV];exact (heap_setCell_same _ _ _ _ _ _ hq2).trans rfl
 have hrV:V.heap[w.heap.size+1]? = some (.cells #[.int .i64 0,.string ⟨#[]⟩,.slice none 0 0,.slice none 0 0] 90 (0,0)):=by rw [<- hV];exact (heap_setCell_other _ _ _ _ (by simp)).trans hr2
 have hsV:V.heap.size=w2.heap.size:=by rw [<- hV];simp
 have OV:=hid (show ColOwn W.heap.size C (.slice ua C.length uc) V from by rw [<- hV];exact owns_set O2.out (by have:=HS.out;simp;omega))
 have BV:=hid (show Below w.heap.size w V from by rw [<- hV];exact B2.out.setCell (p:=⟨w.heap.size,2,none⟩) (jR _) _)
 have hszV:=Nat.le_trans (Nat.le_of_eq HS.out.symm) (Nat.le_trans HB2.out (Nat.le_of_eq hsV.symm))
 have HSV:=hid hszV
 have QV:=hid hqV
 have RV:=hid hrV
 have con:=copy_ix (H2.out.below BV.out) hL HC.out
 have q3:=jC hqV 3
 simp only [gT,gZ,gS] at q3
 clear hV hqV hrV hsV hszV hq2 hr2 HB2 g2 f2 H2 O2 B2
 go_wp2_with fail
 refine con.mono ?_
 rintro e w3 ⟨v,rfl,b3,o3⟩
 obtain ⟨va,vc,hv,_⟩:∃ va vc,v=.slice va L.length vc/\(va=none->L.length=0):=by
  obtain ⟨vs,_,h2,_⟩:=o3
  exact owns_shape' h2
 subst hv
 have O3:=hid o3
 have C3:=hid (show ColOwn W.heap.size C (.slice ua C.length uc) w3 from owns_below OV.out b3)
 have B3:=hid (BV.out.trans (b3.mono BV.out.size))
 have hq3:=(b3.block _ (jB QV.out)).trans QV.out
 have hr3:=(b3.block _ (jB RV.out)).trans RV.out
 have g0:=jC hq3 0
 have g1:=jC hq3 1
 have g2:=jC hq3 2
 have g3:=jC hq3 3
 have r0:=jC hr3 0
 have r1:=jC hr3 1
 have r2:=jC hr3 2
 have r3:=jC hr3 3
 have f3:=free_of hq3 3
 have k0:=free_of hr3 0
 have k1:=free_of hr3 1
 have k2:=free_of hr3 2
 have k3:=free_of hr3 3
 simp only [gT,gZ,gS] at g0 g1 g2 g3 r0 r1 r2 r3
 clear con o3 b3 q3 hq3 hr3
 go_wp2_with fail
 refine bodyPost_ret (v:=.agg #[.int .i64 id,.string nm,.slice ua C.length uc,.slice va L.length vc]) (by simp [results,Tryz.results58,go_sem,g0,g1,g2,g3,r0,r1,r2,r3,f3,k0,k1,k2,k3]) rfl ?_
 have hs:=HS.out
 have hsv:=HSV.out
 refine ⟨ua,uc,va,vc,rfl,?_,?_,?_⟩
 · exact ((((B3.out.setCell (p:=⟨w.heap.size,3,none⟩) (jR _) _).setCell (p:=⟨w.heap.size+1,0,none⟩) (by simp) _).setCell (p:=⟨w.heap.size+1,1,none⟩) (by simp) _).setCell (p:=⟨w.heap.size+1,2,none⟩) (by simp) _).setCell (p:=⟨w.heap.size+1,3,none⟩) (by simp) _
 · exact owns_base (owns_set (owns_set (owns_set (owns_set (owns_set C3.out (p:=⟨w.heap.size,3,none⟩) (by simp;omega)) (p:=⟨w.heap.size+1,0,none⟩) (by simp;omega)) (p:=⟨w.heap.size+1,1,none⟩) (by simp;omega)) (p:=⟨w.heap.size+1,2,none⟩) (by simp;omega)) (p:=⟨w.heap.size+1,3,none⟩) (by simp;omega)) (by omega)
 · exact (((((O3.out.set (p:=⟨w.heap.size,3,none⟩) (by simp;omega)).set (p:=⟨w.heap.size+1,0,none⟩) (by simp;omega)).set (p:=⟨w.heap.size+1,1,none⟩) (by simp;omega)).set (p:=⟨w.heap.size+1,2,none⟩) (by simp;omega)).set (p:=⟨w.heap.size+1,3,none⟩) (by simp;omega)).base (by omega)
def TabRows (B:Nat) (L:List Tab) (k:Nat) (outs:List Value) (w:World):Prop:=∃ vs:List (Value × Value),vs.length=k/\outs=((L.take k).zip vs).flatMap tabCells/\TabParts B L vs w
theorem tabRows_keeps (B B':Nat) (L:List Tab) (k:Nat) (outs:List Value):Keeps B' 90 (TabRows B L k outs):=by
 rintro w1 w2 r ⟨vs,h1,h2,h3⟩ hr hg
 exact ⟨vs,h1,h2,tabParts_keeps B B' L vs _ (by decide) (by decide) (by decide) w1 w2 r h3 hr hg⟩
def tabAtN (L:List Tab) (t:Nat):Tab:=(L[t]?).getD default
theorem tabAtN_eq {L:List Tab} {t:Nat} (h:t<L.length):tabAtN L t=L[t]:=by
 unfold tabAtN
 rw [List.getElem?_eq_getElem h];rfl
def TabsSmall (C:List Tab):Prop:=C.length<=1000000/\∀ t ∈ C,t.cols.length<=1000000/\t.idx.length<=1000000/\∀ x ∈ t.idx,x.cols.length<=1000000
def TabOwn (B:Nat) (L:List Tab) (v:Value) (w:World):Prop:=∃ vs:List (Value × Value),vs.length=L.length/\w.ownsRow B 90 4 v L.length ((L.zip vs).flatMap tabCells)/\TabParts B L vs w
theorem TabOwn.sl {B:Nat} {L:List Tab} {v:Value} {w:World} (h:TabOwn B L v w) (hs:TabsSmall L):SlV tabR (fun k=>B<=k) w v L:=by
 obtain ⟨vs,k1,o,k3⟩:=h
 exact tabs_sl k1 o k3 (by have:=hs.1;omega) (fun t ht=>by
  obtain ⟨s1,s2,s3⟩:=hs.2 t ht
  exact ⟨by omega,by omega,fun x hx=>by have:=s3 x hx;omega⟩)
theorem TabOwn.below {B:Nat} {L:List Tab} {v:Value} {w w':World} (h:TabOwn B L v w) (hb:Below w.heap.size w w'):TabOwn B L v w':=by
 obtain ⟨vs,k1,o,k3⟩:=h
 exact ⟨vs,k1,owns_below o hb,k3.below hb⟩
theorem copy_tabs {p:Nat->Prop} {a:Option Addr} {c:Nat} {L:List Tab} {w:World} (h:SlV tabR p w (.slice a L.length c) L) (hs:TabsSmall L) :
 Calls Tryz.prog 57 #[.slice a L.length c,.func (.func 58) #[] #[]] w fun e w'=>∃ (va:Option Addr) (vc:Nat),e=.returned (.slice va L.length vc)/\Below w.heap.size w w'/\TabOwn w.heap.size L (.slice va L.length vc) w':=by
 obtain ⟨_,_,_,hrow⟩:=h.row
 have hx:∀ t,∃ q:(Option Addr × Nat) × (Option Addr × Nat),∀ (ht:t<L.length),(∀ b off,a=some ⟨b,off,none⟩->w.cell? ⟨b,off+t * 4+2,none⟩=some (.slice q.1.1 L[t].cols.length q.1.2)/\w.cell? ⟨b,off+t * 4+3,none⟩=some (.slice q.2.1 L[t].idx.length q.2.2))/\SlV colR p w (.slice q.1.1 L[t].cols.length q.1.2) L[t].cols/\SlV ixR p w (.slice q.2.1 L[t].idx.length q.2.2) L[t].idx:=by
  intro t
  by_cases ht:t<L.length
  · obtain ⟨b,off,rfl,_⟩:=hrow.addr (by intro e;rw [e] at ht;cases ht)
    obtain ⟨ac,cc,ai,ci,_,_,h2,h3,hv⟩:=hrow.tab t ht
    obtain ⟨_,_,_,_,e,s1,s2⟩:=hv
    cases e
    refine ⟨((ac,cc),(ai,ci)),fun _=>⟨fun b' off' e=>?_,s1,s2⟩⟩
    simp only [Option.some.injEq,Addr.mk.injEq] at e
    obtain ⟨rfl,rfl,_⟩:=e
    exact ⟨h2,h3⟩
  · exact ⟨((none,0),(none,0)),fun h=>absurd h ht⟩
 obtain ⟨q,hq⟩:=Classical.axiomOfChoice hx
 refine Calls.mono (each_etab (cb:=#[]) (c:=c) (xi0:=fun t=>(tabAtN L t).id) (xs1:=fun t=>(tabAtN L t).name) (xa2:=fun t=>(q t).1.1) (xn2:=fun t=>(tabAtN L t).cols.length) (xc2:=fun t=>(q t).1.2) (xa3:=fun t=>(q t).2.1) (xn3:=fun t=>(tabAtN L t).idx.length) (xc3:=fun t=>(q t).2.2) (enters_of Tryz.func58 (by kernel_rfl) rfl) (by have:=hs.1;omega) (fun h0=>?_) (TabRows w.heap.size L) ⟨[],rfl,by simp,fun t _ h=>by cases h⟩ (fun k outs=>tabRows_keeps _ _ _ _ _) (fun t ht outs w1 b1 hI=>?_)) ?_
 · obtain ⟨b,off,rfl,_,hbl⟩:=hrow.addr (by intro e;rw [e] at h0;cases h0)
   refine ⟨b,off,rfl,hbl,fun t ht=>?_⟩
   obtain ⟨_,_,_,_,g0,g1,_,_,_⟩:=hrow.tab t ht
   rw [tabAtN_eq ht]
   exact ⟨g0,g1,((hq t ht).1 b off rfl).1,((hq t ht).1 b off rfl).2⟩
 · rw [tabAtN_eq ht]
   obtain ⟨s1,s2,s3⟩:=hs.2 _ (List.getElem_mem ht)
   refine Calls.mono (copied_any ((hq t ht).2.1.below b1) ((hq t ht).2.2.below b1) s1 s2 s3) ?_
   rintro e w2 ⟨ua,uc,va,vc,rfl,b2,o2,i2⟩
   obtain ⟨vs,k1,k2,k3⟩:=hI
   refine ⟨_,_,ua,_,uc,va,_,vc,rfl,b2,vs ++ [(.slice ua L[t].cols.length uc,.slice va L[t].idx.length vc)],by simp [k1],?_,fun s hs hs'=>?_⟩
   · rw [zip_snoc ht k1,List.flatMap_append,<- k2]
     simp [tabCells]
   · by_cases hst:s<t
     · rw [List.getElem_append_left (by omega)]
       have:=k3 s hs (by omega)
       exact ⟨owns_below this.1 b2,this.2.below b2⟩
     · have:s=t:=by rw [List.length_append,k1] at hs';simp at hs';omega
       subst this
       rw [List.getElem_append_right (by omega)]
       simp only [k1,Nat.sub_self,List.getElem_cons_zero]
       exact ⟨owns_base o2 b1.size,i2.base b1.size⟩
 · rintro e w' ⟨v,outs,rfl,o,b,vs,k1,k2,k3⟩
   rw [List.take_length] at k2
   rw [k2] at o
   obtain ⟨va,vc,rfl,_⟩:=owns_shape' o
   exact ⟨va,vc,rfl,b,vs,k1,o,k3⟩
theorem catall_any {p:Nat->Prop} {a:Option Addr} {c b:Nat} {L:List Tab} {w:World} (hb:w.heap[b]? = some (.cells #[.slice a L.length c] 60 (0,0))) (h:SlV tabR p w (.slice a L.length c) L) (hs:TabsSmall L) :
 Calls Tryz.prog 24 #[.pointer (some ⟨b,0,none⟩)] w fun e w'=>∃ (va:Option Addr) (vc:Nat),e=.returned (.slice va L.length vc)/\Below w.heap.size w w'/\TabOwn w.heap.size L (.slice va L.length vc) w':=by
 have con:=copy_tabs h hs
 have q0:=jC hb 0
 simp only [gT,gZ,gS] at q0
 clear hb h hs
 go_enter Tryz.func24,Tryz.ntmps24
 go_wp2_with fail
 refine con.mono ?_
 rintro e w2 ⟨va,vc,rfl,b2,s2⟩
 have B2:=hid b2
 have S2:=hid s2
 clear con b2 s2 q0
 go_wp2_with fail
 go_ret
 exact ⟨va,vc,rfl,B2.out,S2.out⟩
end
section
open Go.RowKit
theorem cnamed_any (s:ByteArray) (w:World):Calls Tryz.prog 94 #[.string s] w fun e w'=>e=.returned (.bool (namedB s))/\w=w':=by
 have hz:s.toList.isEmpty=decide (s.size=0):=by
  rw [toList_data]
  obtain ⟨⟨l⟩⟩:=s
  cases l <;> simp [ByteArray.size]
 by_cases h1:s.size=0
 · have HF:=hid (show namedB s=false by unfold namedB;simp [h1])
   have h3:s.toList=[]:=by simpa [h1] using hz
   clear hz
   go_enter Tryz.func94,Tryz.ntmps94
   go_wp2_with fail
   go_ret
   exact ⟨by rw [HF.out];rfl,rfl⟩
 · have h3:s.toList.isEmpty=false:=by simpa [h1] using hz
   have h4:¬ s.toList=[]:=by simpa using h3
   have HF:=hid (show (!s.toList.isEmpty && decide ((s.size:Int)<=12))=namedB s by
    unfold namedB
    rw [h3]
    have:((s.size:Int)<=12)=(s.size<=12):=by simp;omega
    simp [h1,this])
   clear hz h3
   go_enter Tryz.func94,Tryz.ntmps94
   go_wp2_with fail
   go_ret
   exact ⟨by rw [<- HF.out];rfl,rfl⟩
theorem findT_ix (L:List Tab) (name:ByteArray):ixN (fun t=>sEq (nAt L t) name) L.length=findT L name :=
 ixN_list (fun t=>sEq t.name name) L _ (fun t ht=>by rw [nAt_eq ht])
theorem cfind1_any {b:Nat} {name nm:ByteArray} {v0 v2 v3:Value} {w:World} (h1:v0.oneCell'=true) (h2:v2.oneCell'=true) (h3:v3.oneCell'=true) (hb:w.heap[b]? = some (.cells #[.string name] 9 (0,0))) :
 Calls Tryz.prog 130 #[.agg #[v0,.string nm,v2,v3],.pointer (some ⟨b,0,none⟩)] w fun e w'=>e=.returned (.bool (sEq nm name))/\Below w.heap.size w w':=by
 obtain ⟨W1,hW1⟩:∃ W1,w.alloc (.cells #[v0,.string nm,v2,v3] 90)=W1:=⟨_,rfl⟩
 have hb1:Below w.heap.size w W1:=by rw [<- hW1];exact (b0R).alloc (jR _) _
 have hq:W1.heap[w.heap.size]? = some (.cells #[v0,.string nm,v2,v3] 90 (0,0)):=by rw [<- hW1];exact heap_alloc_new _ _
 have t1:=jC hq 1
 have q0:=jC ((hb1.block _ (jB hb)).trans hb) 0
 simp only [gT,gZ,gS] at t1 q0
 have B1:=hid hb1
 clear hb1 hq hb
 go_enter Tryz.func130,Tryz.ntmps130
 go_upto_region 1 with (fail)
 clear hW1
 go_wp2_with fail
 go_ret
 exact ⟨rfl,B1.out⟩
theorem cfind_any {p:Nat->Prop} {a1:Option Addr} {c1 b:Nat} {L:List Tab} {w:World} (hb:w.heap[b]? = some (.cells #[.slice a1 L.length c1] 60 (0,0))) (hL:SlV tabR p w (.slice a1 L.length c1) L) (name:ByteArray) :
 Calls Tryz.prog 100 #[.pointer (some ⟨b,0,none⟩),.string name] w fun e w'=>e=.returned (.int .i64 (findT L name))/\Below w.heap.size w w':=by
 obtain ⟨W2,hW2⟩:∃ W2,w.alloc (.cells #[.string name] 9)=W2:=⟨_,rfl⟩
 have hb2:Below w.heap.size w W2:=by rw [<- hW2];exact (b0R).alloc (jR _) _
 have t0:=jC ((hb2.block _ (jB hb)).trans hb) 0
 simp only [gT,gZ,gS] at t0
 have HBR:=hid (show W2.heap[w.heap.size]? = some (.cells #[.string name] 9 (0,0)) by rw [<- hW2];exact heap_alloc_new _ _)
 have HL:=hid (hL.below hb2)
 have B2:=hid hb2
 have con:Calls Tryz.prog 129 #[.slice a1 L.length c1,.func (.func 130) #[] #[.pointer (some ⟨w.heap.size,0,none⟩)]] W2 fun e w'=>e=.returned (.int .i64 (ixN (fun t=>sEq (nAt L t) name) L.length))/\Below W2.heap.size W2 w':=by
  obtain ⟨_,_,hmx,hrow⟩:=HL.out.row
  have key:∀ t,∃ x:Value × Value × Value,t<L.length->(∀ b off,a1=some ⟨b,off,none⟩->W2.cell? ⟨b,off+t * 4,none⟩=some x.1/\W2.cell? ⟨b,off+t * 4+1,none⟩=some (.string (nAt L t))/\W2.cell? ⟨b,off+t * 4+2,none⟩=some x.2.1/\W2.cell? ⟨b,off+t * 4+3,none⟩=some x.2.2)/\x.1.oneCell'=true/\x.2.1.oneCell'=true/\x.2.2.oneCell'=true:=by
   intro t
   by_cases ht:t<L.length
   · obtain ⟨b,off,rfl,_⟩:=hrow.addr (by intro e;rw [e] at ht;cases ht)
     obtain ⟨ac,cc,ai,ci,g0,g1,g2,g3,_⟩:=hrow.tab t ht
     refine ⟨⟨.int .i64 L[t].id,.slice ac L[t].cols.length cc,.slice ai L[t].idx.length ci⟩,fun _=>⟨fun b' off' e=>?_,rfl,rfl,rfl⟩⟩
     obtain ⟨rfl,rfl,_⟩:=(by simpa using e:b=b'/\off=off')
     rw [nAt_eq ht]
     exact ⟨g0,g1,g2,g3⟩
   · exact ⟨⟨.bool false,.bool false,.bool false⟩,fun h=>absurd h ht⟩
  obtain ⟨x,hx⟩:=Classical.axiomOfChoice key
  refine ixf_tab (x0:=fun t=>(x t).1) (x1:=fun t=>.string (nAt L t)) (x2:=fun t=>(x t).2.1) (x3:=fun t=>(x t).2.2) (fun t=>sEq (nAt L t) name) (enters_of Tryz.func130 (by kernel_rfl) rfl) hmx (fun h0=>?_) (fun t ht w1 b1=>?_)
  · obtain ⟨b,off,e,_,hbl⟩:=hrow.addr (by intro e;rw [e] at h0;cases h0)
    exact ⟨b,off,e,hbl,fun t ht=>(hx t ht).1 b off e⟩
  · exact cfind1_any (hx t ht).2.1 (hx t ht).2.2.1 (hx t ht).2.2.2 ((b1.block _ (jB HBR.out)).trans HBR.out)
 have HF:=hid (findT_ix L name)
 generalize ixN _ _=f at con HF
 clear hL hb2 HL HBR hb
 go_enter Tryz.func100,Tryz.ntmps100
 go_upto_region 1 with (fail)
 clear hW2
 go_wp2_with fail
 refine con.mono ?_
 rintro e w2 ⟨rfl,b2⟩
 have B3:=hid (B2.out.trans (b2.mono B2.out.size))
 clear b2 con
 go_wp2_with fail
 go_ret
 exact ⟨by rw [<- HF.out];rfl,B3.out⟩
theorem cnew_any (w:World):Calls Tryz.prog 5 #[] w fun e w'=>e=.returned (.pointer (some ⟨w.heap.size,0,none⟩))/\w'=w.alloc (.cells #[.slice none 0 0] 60):=by
 go_enter Tryz.func5,Tryz.ntmps5
 go_wp2_with fail
 go_ret
 exact ⟨rfl,rfl⟩
end
end Go.Proofs.YtjcpccadmcglgaaGreatDoor
