/- What a statement among a law's arguments holds in memory, and how small its parts are wher. -/
import Derived.Test.YtieojjngeibnmaaGreatDoorZB46
import Derived.Test.YtieojjngeibnmaaGreatDoorZB19
import Derived.Test.YtieojjngeibnmaaGreatDoorRows
set_option linter.unusedVariables false
set_option linter.unusedSimpArgs false
set_option maxRecDepth 100000
set_option maxHeartbeats 64000000
namespace Go.Proofs.YtieojjngeibnmaaGreatDoor
section
open Go.ChangeShapes Go.WideShapes Go.ChangeAt Go.RowKit
instance:Inhabited SetV:=⟨⟨noStr,noStr,val0⟩⟩
theorem bulk_one {H:Type} (d:DataW H):1<=Rows.uptoBulk d:=by
 cases d with
 | lit l=>cases l <;> simp [Rows.uptoBulk]
 | nil=>simp [Rows.uptoBulk]
 | ptr d=>simp [Rows.uptoBulk]
 | slice elems spare=>simp [Rows.uptoBulk]
 | agg parts=>simp [Rows.uptoBulk]
 | iface t d=>simp [Rows.uptoBulk]
 | map entries=>simp [Rows.uptoBulk]
 | held h=>simp [Rows.uptoBulk]
theorem bulk_part {H:Type} {d:DataW H} {l:List (DataW H)} (h:d ∈ l):Rows.uptoBulk d<=Rows.uptoBulkAll l:=by
 induction l with
 | nil=>cases h
 | cons x r ih =>
  simp only [Rows.uptoBulkAll]
  cases List.mem_cons.1 h with
  | inl e=>subst e;omega
  | inr e=>have:=ih e;omega
theorem bulk_len {H:Type} (l:List (DataW H)):l.length<=Rows.uptoBulkAll l:=by
 induction l with
 | nil=>simp [Rows.uptoBulkAll]
 | cons x r ih=>have:=bulk_one x;simp only [Rows.uptoBulkAll,List.length_cons];omega
theorem bulk_str {H:Type} (s:ByteArray):Rows.uptoBulk (DataW.lit (H:=H) (.string s.data.toList))=s.size+1:=by
 simp [Rows.uptoBulk]
theorem sl_flat {H:Type} {enc:TypeId × Value->H} {w:World} {fuel B:Nat} {α:Type} [Inhabited α] {t e:TypeId} {sz:Nat} {encA:α->List Value} {hl:∀ x,(encA x).length=sz} {Q:Nat->α->Prop} (hs:Tryz.prog.underlying t=some (.slice e)) (hc:Tryz.prog.cellsOf e=sz) (hpos:0<sz)
 (one:∀ (cs:List Value) (m:Nat) (y:DataW H × List MemPlace),cs.length=sz->DataW.trod enc Tryz.prog w 0 (fun _=>true) true m e cs=some y->∃ x,cs=encA x/\Q (Rows.uptoBulk y.1) x)
 {c:Value} {y:DataW H × List MemPlace} (hf:DataW.trod enc Tryz.prog w 0 (fun _=>true) true fuel t [c]=some y) (hfz:w.noneFrozen y.2) (hb:Rows.uptoBulk y.1<=B) (hB:B<=1048576) :
 ∃ Z:List α,SlV (flatR sz encA hl) (fun _=>True) w c Z/\∀ x ∈ Z,∃ k,k<=B/\Q k x:=by
 rcases Go.Deep.open_slice hs hf with ⟨hcs,hx⟩|⟨a,len,cap,m,n,D,Pl,hcs,_,hlen,hm,hmm,hx,hel⟩
 · obtain rfl:c=.slice none 0 0:=by simpa using hcs
   exact ⟨[],⟨none,0,rfl,jR _,Nat.zero_le _,Or.inl rfl⟩,fun x hx=>by cases hx⟩
 · obtain rfl:c=.slice (some a) len cap:=by simpa using hcs
   have hmc:m=cap:=by simpa using hmm
   rw [hx] at hb
   simp only [Rows.uptoBulk] at hb
   have hlb:=bulk_len ((List.range len).map D)
   rw [List.length_map,List.length_range] at hlb
   obtain ⟨b,off,spot⟩:=a
   have each:∀ i,i<len->∃ x:α,(∀ j,j<sz->w.cell? (((⟨b,off,spot⟩:Addr).add (i * sz)).add j)=(encA x)[j]?)/\∃ k,k<=B/\Q k x:=by
    intro i hi
    obtain ⟨cs,h1,h2⟩:=hel i (by omega)
    rw [hc] at h1
    obtain ⟨_,h3,h4⟩:=World.cells?_some h1
    obtain ⟨x,rfl,hq⟩:=one cs _ _ h3 h2
    have hp:=bulk_part (List.mem_map.2 ⟨i,List.mem_range.2 hi,rfl⟩:D i ∈ (List.range len).map D)
    exact ⟨x,fun j hj=>h4 j hj,_,by simp only at hq ⊢;omega,hq⟩
   rcases Nat.eq_zero_or_pos len with h0|h0
   · subst h0
     exact ⟨[],⟨some ⟨b,off,spot⟩,cap,rfl,Nat.zero_le _,Nat.zero_le _,Or.inl rfl⟩,fun x hx=>by cases hx⟩
   have hspot:spot=none:=by
    obtain ⟨x,h1,_⟩:=each 0 h0
    have h2:=h1 0 hpos
    cases hv:(encA x)[0]? with
    | none=>rw [List.getElem?_eq_none_iff,hl] at hv;omega
    | some v =>
     rw [hv] at h2
     simpa [Addr.add] using World.cell?_spot h2
   subst hspot
   obtain ⟨Z,hZ,hZ2⟩:=list_of each
   subst hZ
   have gd:∀ t (ht:t<Z.length),Z.getD t default=Z[t]:=fun t ht=>by rw [List.getD_eq_getElem?_getD,List.getElem?_eq_getElem ht];rfl
   have ad:∀ i j,((⟨b,off,none⟩:Addr).add (i * sz)).add j=⟨b,off+i * sz+j,none⟩:=by
    intro i j
    have e1:(⟨b,off,none⟩:Addr).add (i * sz)=⟨b,off+i * sz,none⟩:=by unfold Addr.add;split <;> simp_all
    have e2:(⟨b,off+i * sz,none⟩:Addr).add j=⟨b,off+i * sz+j,none⟩:=by unfold Addr.add;split <;> simp_all
    rw [e1,e2]
   refine ⟨Z,⟨_,cap,rfl,hlen,by omega,?_⟩,fun x hx=>?_⟩
   · have hc0:=(hZ2 0 h0).1 0 hpos
     rw [ad] at hc0
     have hlt:b<w.heap.size:=by
      cases hv:(encA (Z.getD 0 default))[0]? with
      | none=>rw [List.getElem?_eq_none_iff,hl] at hv;omega
      | some v=>rw [hv] at hc0;exact World.block_lt_of_cell? w _ hc0
     refine Or.inr ⟨b,off,rfl,trivial,⟨hlt,free_of_trod (sz:=sz) hs hc hf hfz⟩,fun t ht=>⟨_,fun j hj=>?_,rfl⟩⟩
     rw [<- gd t ht,<- (hZ2 t ht).1 j hj,ad]
     rfl
   · obtain ⟨t,ht,rfl⟩:=List.getElem_of_mem hx
     have:=(hZ2 t ht).2
     rwa [gd t ht] at this
theorem rng_of {k:Int} (w:(Lit.int .i64 k).wf=true):-9223372036854775808<=k/\k<=9223372036854775807:=by simpa [Lit.wf,IntKind.min,IntKind.max,IntKind.signed,IntKind.bits] using w
theorem oI:Tryz.prog.cellsOf 3=1:=by kernel_rfl
theorem oL:Tryz.prog.cellsOf 2=1:=by kernel_rfl
theorem oS:Tryz.prog.cellsOf 9=1:=by kernel_rfl
theorem oV:Tryz.prog.cellsOf 60=3:=by kernel_rfl
theorem str_one {H:Type} {enc:TypeId × Value->H} {w:World} (cs:List Value) (m:Nat) (y:DataW H × List MemPlace) (_:cs.length=1) (hf:DataW.trod enc Tryz.prog w 0 (fun _=>true) true m 9 cs=some y):∃ x:ByteArray,cs=strEnc x/\x.size<=Rows.uptoBulk y.1:=by
 obtain ⟨s,rfl,rfl,-⟩:=DataW.trod_string Tryz.underlying9 hf
 exact ⟨s,rfl,by rw [bulk_str];omega⟩
theorem val_one {H:Type} {enc:TypeId × Value->H} {w:World} (cs:List Value) (m:Nat) (y:DataW H × List MemPlace) (hlen:cs.length=3) (hf:DataW.trod enc Tryz.prog w 0 (fun _=>true) true m 60 cs=some y):∃ x:Val,cs=valEnc x/\SmallV (Rows.uptoBulk y.1) x:=by
 match cs,hlen with
 | [e0,e1,e2],_ =>
  obtain ⟨xs,n,_,rfl,_,hxl,hfs⟩:=DataW.trod_struct Tryz.underlying60 hf
  match xs,hxl with
  | [x0,x1,x2],_ =>
   have h0:=hfs 0 _ rfl
   have h1:=hfs 1 _ rfl
   have h2:=hfs 2 _ rfl
   simp [oI,oL,oS] at h0 h1 h2
   obtain ⟨y0,q0,_,_⟩:=DataW.trod_int Tryz.underlying3 h0
   obtain ⟨y1,q1,_,w1⟩:=DataW.trod_int Tryz.underlying2 h1
   obtain ⟨y2,q2,hy2,_⟩:=DataW.trod_string Tryz.underlying9 h2
   simp at q0 q1 q2
   subst q0 q1 q2
   have hb:=bulk_str (H:=H) y2
   refine ⟨⟨y0,y1,y2⟩,rfl,(rng_of w1).1,(rng_of w1).2,?_⟩
   simp only [List.map_cons,List.map_nil,Rows.uptoBulk,Rows.uptoBulkAll,hy2] at hb ⊢
   omega
theorem col_one' {H:Type} {enc:TypeId × Value->H} {w:World} (cs:List Value) (m:Nat) (y:DataW H × List MemPlace) (hlen:cs.length=2) (hf:DataW.trod enc Tryz.prog w 0 (fun _=>true) true m 100 cs=some y):∃ x:ByteArray × Int,cs=colEnc x/\x.1.size<=Rows.uptoBulk y.1:=by
 match cs,hlen with
 | [e0,e1],_ =>
  obtain ⟨xs,n,_,rfl,_,hxl,hfs⟩:=DataW.trod_struct Tryz.underlying100 hf
  match xs,hxl with
  | [x0,x1],_ =>
   have h0:=hfs 0 _ rfl
   have h1:=hfs 1 _ rfl
   simp [oI,oS] at h0 h1
   obtain ⟨y0,q0,hy0,_⟩:=DataW.trod_string Tryz.underlying9 h0
   obtain ⟨y1,q1,_,w1⟩:=DataW.trod_int Tryz.underlying3 h1
   simp at q0 q1
   subst q0 q1
   have hb:=bulk_str (H:=H) y0
   refine ⟨(y0,y1),rfl,?_⟩
   simp only [List.map_cons,List.map_nil,Rows.uptoBulk,Rows.uptoBulkAll,hy0] at hb ⊢
   omega
theorem small_mono {a b:Nat} {v:Val} (h:SmallV a v) (k:a<=b):SmallV b v:=⟨h.1,h.2.1,Nat.le_trans h.2.2 k⟩
theorem cond_one' {H:Type} {enc:TypeId × Value->H} {w:World} (cs:List Value) (m:Nat) (y:DataW H × List MemPlace) (hlen:cs.length=5) (hf:DataW.trod enc Tryz.prog w 0 (fun _=>true) true m 94 cs=some y):∃ x:Cond,cs=condEnc x/\x.col.size<=Rows.uptoBulk y.1/\SmallV (Rows.uptoBulk y.1) x.val:=by
 match cs,hlen with
 | [e0,e1,e2,e3,e4],_ =>
  obtain ⟨xs,n,_,rfl,_,hxl,hfs⟩:=DataW.trod_struct Tryz.underlying94 hf
  match xs,hxl with
  | [x0,x1,x2],_ =>
   have h0:=hfs 0 _ rfl
   have h1:=hfs 1 _ rfl
   have h2:=hfs 2 _ rfl
   simp [oI,oS,oV] at h0 h1 h2
   obtain ⟨y0,q0,hy0,_⟩:=DataW.trod_string Tryz.underlying9 h0
   obtain ⟨y1,q1,_,w1⟩:=DataW.trod_int Tryz.underlying3 h1
   obtain ⟨y2,q2,hy2⟩:=val_one _ _ _ rfl h2
   simp [valEnc] at q0 q1 q2
   obtain ⟨q2,q3,q4⟩:=q2
   subst q0 q1 q2 q3 q4
   have hb:=bulk_str (H:=H) y0
   refine ⟨⟨y0,y1,y2⟩,rfl,?_,small_mono hy2 ?_⟩
   · simp only [List.map_cons,List.map_nil,Rows.uptoBulk,Rows.uptoBulkAll,hy0] at hb ⊢
     omega
   · simp only [List.map_cons,List.map_nil,Rows.uptoBulk,Rows.uptoBulkAll]
     omega
theorem set_one' {H:Type} {enc:TypeId × Value->H} {w:World} (cs:List Value) (m:Nat) (y:DataW H × List MemPlace) (hlen:cs.length=5) (hf:DataW.trod enc Tryz.prog w 0 (fun _=>true) true m 96 cs=some y):∃ x:SetV,cs=setEnc x/\x.col.size<=Rows.uptoBulk y.1/\x.col2.size<=Rows.uptoBulk y.1/\SmallV (Rows.uptoBulk y.1) x.val:=by
 match cs,hlen with
 | [e0,e1,e2,e3,e4],_ =>
  obtain ⟨xs,n,_,rfl,_,hxl,hfs⟩:=DataW.trod_struct Tryz.underlying96 hf
  match xs,hxl with
  | [x0,x1,x2],_ =>
   have h0:=hfs 0 _ rfl
   have h1:=hfs 1 _ rfl
   have h2:=hfs 2 _ rfl
   simp [oS,oV] at h0 h1 h2
   obtain ⟨y0,q0,hy0,_⟩:=DataW.trod_string Tryz.underlying9 h0
   obtain ⟨y1,q1,hy1,_⟩:=DataW.trod_string Tryz.underlying9 h1
   obtain ⟨y2,q2,hy2⟩:=val_one _ _ _ rfl h2
   simp [valEnc] at q0 q1 q2
   obtain ⟨q2,q3,q4⟩:=q2
   subst q0 q1 q2 q3 q4
   have hb:=bulk_str (H:=H) y0
   have hb1:=bulk_str (H:=H) y1
   refine ⟨⟨y0,y1,y2⟩,rfl,?_,?_,small_mono hy2 ?_⟩
   · simp only [List.map_cons,List.map_nil,Rows.uptoBulk,Rows.uptoBulkAll,hy0] at hb ⊢
     omega
   · simp only [List.map_cons,List.map_nil,Rows.uptoBulk,Rows.uptoBulkAll,hy1] at hb1 ⊢
     omega
   · simp only [List.map_cons,List.map_nil,Rows.uptoBulk,Rows.uptoBulkAll]
     omega
theorem oST:Tryz.prog.cellsOf 29=15:=by kernel_rfl
theorem oC:Tryz.prog.cellsOf 100=2:=by kernel_rfl
theorem oX:Tryz.prog.cellsOf 96=5:=by kernel_rfl
theorem oW:Tryz.prog.cellsOf 94=5:=by kernel_rfl
theorem oSL:Tryz.prog.cellsOf 23=1:=by kernel_rfl
theorem oCL:Tryz.prog.cellsOf 22=1:=by kernel_rfl
theorem oRL:Tryz.prog.cellsOf 25=1:=by kernel_rfl
theorem oXL:Tryz.prog.cellsOf 26=1:=by kernel_rfl
theorem oWL:Tryz.prog.cellsOf 27=1:=by kernel_rfl
structure Parts (M:Nat) (s:Stmt):Prop where
 table:s.table.size<=M
 name:s.name.size<=M
 join:s.join.size<=M
 left:s.left.size<=M
 right:s.right.size<=M
 cols:∀ c ∈ s.cols,c.1.size<=M
 names:∀ x ∈ s.names,x.size<=M
 row:∀ v ∈ s.row,SmallV M v
 sets:∀ x ∈ s.sets,x.col.size<=M/\x.col2.size<=M/\SmallV M x.val
 wher:∀ c ∈ s.wher,c.col.size<=M/\SmallV M c.val
 order:∀ x ∈ s.order,x.size<=M
 n:-9223372036854775808<=s.n/\s.n<=9223372036854775807
 agg:-9223372036854775808<=s.agg/\s.agg<=9223372036854775807
 mode:-9223372036854775808<=s.mode/\s.mode<=9223372036854775807
theorem Parts.few {M:Nat} {s:Stmt} (h:Parts M s):SmallS M (fewS s) :=
 ⟨h.table,h.name,h.join,h.left,h.right,fun c hc=>h.cols c (List.mem_of_mem_take hc),fun c hc=>h.names c (List.mem_of_mem_take hc),fun c hc=>h.row c (List.mem_of_mem_take hc),fun c hc=>h.sets c (List.mem_of_mem_take hc),fun c hc=>h.wher c (List.mem_of_mem_take hc),fun c hc=>h.order c (List.mem_of_mem_take hc),h.n,
  ⟨by show (s.cols.take 14).length<=14;rw [List.length_take];exact Nat.min_le_left _ _,by show (s.names.take 14).length<=14;rw [List.length_take];exact Nat.min_le_left _ _,by show (s.row.take 14).length<=14;rw [List.length_take];exact Nat.min_le_left _ _,by show (s.sets.take 14).length<=14;rw [List.length_take];exact Nat.min_le_left _ _,by show (s.wher.take 14).length<=14;rw [List.length_take];exact Nat.min_le_left _ _,by show (s.order.take 14).length<=14;rw [List.length_take];exact Nat.min_le_left _ _⟩⟩
theorem Parts.few_ok {s:Stmt} (h:Parts 1048576 s):StOk (fewS s)/\(printedM (fewS s)).size<=4294967000:=by
 have k:=h.few
 have v:∀ {v:Val},SmallV 1048576 v->ValOk v:=fun h=>⟨h.1,h.2.1,Nat.le_trans h.2.2 (by decide)⟩
 exact ⟨⟨k.short.mono (by decide),fun x hx=>v (k.row x hx),fun x hx=>v (k.sets x hx).2.2,fun x hx=>v (k.wher x hx).2,fun x hx=>Nat.le_trans (k.names x hx) (by decide),h.agg.2,k.n⟩,Nat.le_trans (printed_small k) (by decide)⟩
theorem open_stmt {H:Type} {enc:TypeId × Value->H} {w:World} {b0:Nat} {v:Value} {d:DataW H} {p:List MemPlace} (hv:Value.okWide Tryz.prog w .any b0 29 v) (h:DataW.Trod enc Tryz.prog w 0 (fun _=>true) true 29 v d p) (hfz:w.noneFrozen p) (hb:Rows.uptoBulk d<=1048576) :
 ∃ L s,v=.agg (stC L s)/\SlsAt (fun _=>True) w L s/\Parts 1048576 s:=by
 unfold Value.okWide at hv
 rw [Tryz.underlying29] at hv
 obtain ⟨cs,rfl,hsz,_⟩:=hv
 rw [oST] at hsz
 obtain ⟨l⟩:=cs
 match l,hsz with
 | [e0,e1,e2,e3,e4,e5,e6,e7,e8,e9,e10,e11,e12,e13,e14],_ =>
  obtain ⟨fuel,hf⟩:=h
  obtain ⟨xs,n,_,hx,_,hxl,hfs⟩:=DataW.trod_struct Tryz.underlying29 hf
  match xs,hxl with
  | [x0,x1,x2,x3,x4,x5,x6,x7,x8,x9,x10,x11,x12,x13,x14],_ =>
   simp only [Prod.mk.injEq] at hx
   obtain ⟨rfl,rfl⟩:=hx
   have small:∀ y ∈ [x0,x1,x2,x3,x4,x5,x6,x7,x8,x9,x10,x11,x12,x13,x14],Rows.uptoBulk y.1<=1048576:=fun y hy=>by
    have h1:=bulk_part (List.mem_map.2 ⟨y,hy,rfl⟩:y.1 ∈ [x0,x1,x2,x3,x4,x5,x6,x7,x8,x9,x10,x11,x12,x13,x14].map (·.1))
    simp only [Rows.uptoBulk] at hb
    omega
   have free:∀ y ∈ [x0,x1,x2,x3,x4,x5,x6,x7,x8,x9,x10,x11,x12,x13,x14],w.noneFrozen y.2:=fun y hy b o hm=>hfz b o (List.mem_flatMap.2 ⟨y,hy,hm⟩)
   have h0:=hfs 0 _ rfl
   have h1:=hfs 1 _ rfl
   have h2:=hfs 2 _ rfl
   have h3:=hfs 3 _ rfl
   have h4:=hfs 4 _ rfl
   have h5:=hfs 5 _ rfl
   have h6:=hfs 6 _ rfl
   have h7:=hfs 7 _ rfl
   have h8:=hfs 8 _ rfl
   have h9:=hfs 9 _ rfl
   have h10:=hfs 10 _ rfl
   have h11:=hfs 11 _ rfl
   have h12:=hfs 12 _ rfl
   have h13:=hfs 13 _ rfl
   have h14:=hfs 14 _ rfl
   simp [Value.cells,oI,oS,oSL,oCL,oRL,oXL,oWL] at h0 h1 h2 h3 h4 h5 h6 h7 h8 h9 h10 h11 h12 h13 h14
   obtain ⟨y0,q0,_,w0⟩:=DataW.trod_int Tryz.underlying3 h0
   obtain ⟨y11,q11,_,w11⟩:=DataW.trod_int Tryz.underlying3 h11
   obtain ⟨y13,q13,_,w13⟩:=DataW.trod_int Tryz.underlying3 h13
   obtain ⟨y14,q14,_,w14⟩:=DataW.trod_int Tryz.underlying3 h14
   obtain ⟨y1,q1,g1⟩:=str_one _ _ _ rfl h1
   obtain ⟨y2,q2,g2⟩:=str_one _ _ _ rfl h2
   obtain ⟨y8,q8,g8⟩:=str_one _ _ _ rfl h8
   obtain ⟨y9,q9,g9⟩:=str_one _ _ _ rfl h9
   obtain ⟨y10,q10,g10⟩:=str_one _ _ _ rfl h10
   obtain ⟨Z3,s3,k3⟩:=sl_flat (encA:=colEnc) (hl:=fun _=>rfl) (Q:=fun k (x:ByteArray × Int)=>x.1.size<=k) Tryz.underlying22 oC (by decide) col_one' h3 (free _ (by simp)) (small _ (by simp)) (jR _)
   obtain ⟨Z4,s4,k4⟩:=sl_flat (encA:=strEnc) (hl:=fun _=>rfl) (Q:=fun k (x:ByteArray)=>x.size<=k) Tryz.underlying23 oS (by decide) str_one h4 (free _ (by simp)) (small _ (by simp)) (jR _)
   obtain ⟨Z5,s5,k5⟩:=sl_flat (encA:=valEnc) (hl:=fun _=>rfl) (Q:=fun k (x:Val)=>SmallV k x) Tryz.underlying25 oV (by decide) val_one h5 (free _ (by simp)) (small _ (by simp)) (jR _)
   obtain ⟨Z6,s6,k6⟩:=sl_flat (encA:=setEnc) (hl:=fun _=>rfl) (Q:=fun k (x:SetV)=>x.col.size<=k/\x.col2.size<=k/\SmallV k x.val) Tryz.underlying26 oX (by decide) set_one' h6 (free _ (by simp)) (small _ (by simp)) (jR _)
   obtain ⟨Z7,s7,k7⟩:=sl_flat (encA:=condEnc) (hl:=fun _=>rfl) (Q:=fun k (x:Cond)=>x.col.size<=k/\SmallV k x.val) Tryz.underlying27 oW (by decide) cond_one' h7 (free _ (by simp)) (small _ (by simp)) (jR _)
   obtain ⟨Z12,s12,k12⟩:=sl_flat (encA:=strEnc) (hl:=fun _=>rfl) (Q:=fun k (x:ByteArray)=>x.size<=k) Tryz.underlying23 oS (by decide) str_one h12 (free _ (by simp)) (small _ (by simp)) (jR _)
   simp [strEnc] at q0 q1 q2 q8 q9 q10 q11 q13 q14
   subst q0 q1 q2 q8 q9 q10 q11 q13 q14
   refine ⟨⟨e3,e4,e5,e6,e7,e12⟩,⟨y0,y1,y2,Z3,Z4,Z5,Z6,Z7,y8,y9,y10,y11,Z12,y13,y14⟩,rfl,⟨s3,s4,s5,s6,s7,s12⟩,?_⟩
   have up:∀ {a:Nat} {y:DataW H × List MemPlace},y ∈ [x0,x1,x2,x3,x4,x5,x6,x7,x8,x9,x10,x11,x12,x13,x14]->a<=Rows.uptoBulk y.1->a<=1048576:=fun hy h=>Nat.le_trans h (small _ hy)
   exact ⟨up (by simp) g1,up (by simp) g2,up (by simp) g8,up (by simp) g9,up (by simp) g10,fun x hx=>by obtain ⟨k,h1,h2⟩:=k3 x hx;exact Nat.le_trans h2 h1,fun x hx=>by obtain ⟨k,h1,h2⟩:=k4 x hx;exact Nat.le_trans h2 h1,fun x hx=>by obtain ⟨k,h1,h2⟩:=k5 x hx;exact small_mono h2 h1,fun x hx=>by obtain ⟨k,h1,h2,h3,h4⟩:=k6 x hx;exact ⟨Nat.le_trans h2 h1,Nat.le_trans h3 h1,small_mono h4 h1⟩,fun x hx=>by obtain ⟨k,h1,h2,h3⟩:=k7 x hx;exact ⟨Nat.le_trans h2 h1,small_mono h3 h1⟩,fun x hx=>by obtain ⟨k,h1,h2⟩:=k12 x hx;exact Nat.le_trans h2 h1,rng_of w14,rng_of w11,rng_of w13⟩
end
end Go.Proofs.YtieojjngeibnmaaGreatDoor
