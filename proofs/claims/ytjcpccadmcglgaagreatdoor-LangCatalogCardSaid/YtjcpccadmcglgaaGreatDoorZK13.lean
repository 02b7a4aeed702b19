/- Tables, conditions, values and sets in memory. -/
import Derived.Test.YtjcpccadmcglgaaGreatDoorZK9
import Derived.Test.YtjcpccadmcglgaaGreatDoorZK8
import Derived.Test.YtjcpccadmcglgaaGreatDoorZK2
import Derived.Test.YtjcpccadmcglgaaGreatDoorProg
set_option linter.unusedVariables false
set_option linter.unusedSimpArgs false
set_option maxRecDepth 100000
set_option maxHeartbeats 64000000
namespace Go.Proofs.YtjcpccadmcglgaaGreatDoor
section
open Go.RowKit
theorem RowAt.flat {α:Type} {p:Nat->Prop} {w:World} {b off:Nat} {L:List α} {sz:Nat} {enc:α->List Value} {hl:∀ x,(enc x).length=sz}
 (h:RowAt (flatR sz enc hl) p w (some ⟨b,off,none⟩) L) (t:Nat) (ht:t<L.length) (j:Nat) (hj:j<sz):w.cell? ⟨b,off+t * sz+j,none⟩=(enc L[t])[j]? := by
 obtain ⟨cs,h1,rfl⟩:=h.get t ht
 exact h1 j hj
def colEnc (c:ByteArray × Int):List Value:=[.string c.1,.int .i64 c.2]
def colR:Rep (ByteArray × Int):=flatR 2 colEnc fun _=>rfl
def valEnc (v:Val):List Value:=[.int .i64 v.kind,.int .i64 v.n,.string v.s]
def valR:Rep Val:=flatR 3 valEnc fun _=>rfl
def condEnc (c:Cond):List Value:=[.string c.col,.int .i64 c.op,.int .i64 c.val.kind,.int .i64 c.val.n,.string c.val.s]
def condR:Rep Cond:=flatR 5 condEnc fun _=>rfl
def setEnc (x:SetV):List Value:=[.string x.col,.string x.col2,.int .i64 x.val.kind,.int .i64 x.val.n,.string x.val.s]
def setR:Rep SetV:=flatR 5 setEnc fun _=>rfl
def Cond.enc (c:Cond):Value:=.agg #[.string c.col,.int .i64 c.op,.int .i64 c.val.kind,.int .i64 c.val.n,.string c.val.s]
def ixR:Rep Ix where
 sz:=3
 ok:=fun p w cs x=>∃ a cap,cs=[.string x.name,.slice a x.cols.length cap,.int .i64 x.root]/\x.cols.length<=cap/\x.cols.length<=140737488355328/\RowAt intR p w a x.cols
 len:=by rintro p w cs x ⟨a,cap,rfl,_⟩;rfl
 keep:=by rintro p w w' cs x ⟨a,cap,h0,h1,h2,h3⟩ hk;exact ⟨a,cap,h0,h1,h2,h3.keep hk⟩
 weaken:=by rintro p q w cs x ⟨a,cap,h0,h1,h2,h3⟩ hk;exact ⟨a,cap,h0,h1,h2,h3.weaken hk⟩
 bound:=by rintro p w cs x ⟨a,cap,h0,h1,h2,h3⟩;exact ⟨a,cap,h0,h1,h2,h3.bound⟩
def TabV (p:Nat->Prop) (w:World) (v:Value) (T:Tab):Prop :=
 ∃ ac cc ai ci,v=.agg #[.int .i64 T.id,.string T.name,.slice ac T.cols.length cc,.slice ai T.idx.length ci]/\SlV colR p w (.slice ac T.cols.length cc) T.cols/\SlV ixR p w (.slice ai T.idx.length ci) T.idx
theorem TabV.keep {p:Nat->Prop} {w w':World} {v:Value} {T:Tab} (h:TabV p w v T) (hk:∀ k,p k->k<w.heap.size->w'.heap[k]? = w.heap[k]?):TabV p w' v T:=by
 obtain ⟨ac,cc,ai,ci,h0,h1,h2⟩:=h
 exact ⟨ac,cc,ai,ci,h0,h1.keep hk,h2.keep hk⟩
theorem TabV.below {p:Nat->Prop} {w w':World} {v:Value} {T:Tab} (h:TabV p w v T) (hb:Below w.heap.size w w'):TabV p w' v T:=h.keep fun k _ hk=>hb.block k hk
theorem TabV.bound {p:Nat->Prop} {w:World} {v:Value} {T:Tab} (h:TabV p w v T):TabV (fun k=>p k/\k<w.heap.size) w v T:=by
 obtain ⟨ac,cc,ai,ci,h0,h1,h2⟩:=h
 exact ⟨ac,cc,ai,ci,h0,h1.bound,h2.bound⟩
theorem TabV.weaken {p q:Nat->Prop} {w:World} {v:Value} {T:Tab} (h:TabV p w v T) (hk:∀ k,p k->q k):TabV q w v T:=by
 obtain ⟨ac,cc,ai,ci,h0,h1,h2⟩:=h
 exact ⟨ac,cc,ai,ci,h0,h1.weaken hk,h2.weaken hk⟩
theorem SlV.row {α:Type} {R:Rep α} {p:Nat->Prop} {w:World} {a:Option Addr} {n cap:Nat} {L:List α} (h:SlV R p w (.slice a n cap) L):n=L.length/\n<=cap/\n<=140737488355328/\RowAt R p w a L:=by
 obtain ⟨a',cap',h0,h1,h2,h3⟩:=h
 simp only [Value.slice.injEq] at h0
 obtain ⟨rfl,rfl,rfl⟩:=h0
 exact ⟨rfl,h1,h2,h3⟩
theorem SlV.shape {α:Type} {R:Rep α} {p:Nat->Prop} {w:World} {v:Value} {L:List α} (h:SlV R p w v L):∃ a cap,v=.slice a L.length cap:=by
 obtain ⟨a,cap,h0,_⟩:=h
 exact ⟨a,cap,h0⟩
theorem RowAt.col {p:Nat->Prop} {w:World} {b off:Nat} {L:List (ByteArray × Int)} (h:RowAt colR p w (some ⟨b,off,none⟩) L) (t:Nat) (ht:t<L.length) :
 w.cell? ⟨b,off+t * 2,none⟩=some (.string L[t].1)/\w.cell? ⟨b,off+t * 2+1,none⟩=some (.int .i64 L[t].2) :=
 ⟨h.flat t ht 0 (by omega),h.flat t ht 1 (by omega)⟩
theorem RowAt.val {p:Nat->Prop} {w:World} {b off:Nat} {L:List Val} (h:RowAt valR p w (some ⟨b,off,none⟩) L) (t:Nat) (ht:t<L.length) :
 w.cell? ⟨b,off+t * 3,none⟩=some (.int .i64 L[t].kind)/\w.cell? ⟨b,off+t * 3+1,none⟩=some (.int .i64 L[t].n)/\w.cell? ⟨b,off+t * 3+2,none⟩=some (.string L[t].s) :=
 ⟨h.flat t ht 0 (by omega),h.flat t ht 1 (by omega),h.flat t ht 2 (by omega)⟩
theorem RowAt.cond {p:Nat->Prop} {w:World} {b off:Nat} {L:List Cond} (h:RowAt condR p w (some ⟨b,off,none⟩) L) (t:Nat) (ht:t<L.length) :
 w.cell? ⟨b,off+t * 5,none⟩=some (.string L[t].col)/\w.cell? ⟨b,off+t * 5+1,none⟩=some (.int .i64 L[t].op)/\w.cell? ⟨b,off+t * 5+2,none⟩=some (.int .i64 L[t].val.kind) /\
  w.cell? ⟨b,off+t * 5+3,none⟩=some (.int .i64 L[t].val.n)/\w.cell? ⟨b,off+t * 5+4,none⟩=some (.string L[t].val.s) :=
 ⟨h.flat t ht 0 (by omega),h.flat t ht 1 (by omega),h.flat t ht 2 (by omega),h.flat t ht 3 (by omega),h.flat t ht 4 (by omega)⟩
theorem RowAt.set {p:Nat->Prop} {w:World} {b off:Nat} {L:List SetV} (h:RowAt setR p w (some ⟨b,off,none⟩) L) (t:Nat) (ht:t<L.length) :
 w.cell? ⟨b,off+t * 5,none⟩=some (.string L[t].col)/\w.cell? ⟨b,off+t * 5+1,none⟩=some (.string L[t].col2)/\w.cell? ⟨b,off+t * 5+2,none⟩=some (.int .i64 L[t].val.kind) /\
  w.cell? ⟨b,off+t * 5+3,none⟩=some (.int .i64 L[t].val.n)/\w.cell? ⟨b,off+t * 5+4,none⟩=some (.string L[t].val.s) :=
 ⟨h.flat t ht 0 (by omega),h.flat t ht 1 (by omega),h.flat t ht 2 (by omega),h.flat t ht 3 (by omega),h.flat t ht 4 (by omega)⟩
theorem RowAt.ix {p:Nat->Prop} {w:World} {b off:Nat} {L:List Ix} (h:RowAt ixR p w (some ⟨b,off,none⟩) L) (t:Nat) (ht:t<L.length) :
 ∃ a cap,w.cell? ⟨b,off+t * 3,none⟩=some (.string L[t].name)/\w.cell? ⟨b,off+t * 3+1,none⟩=some (.slice a L[t].cols.length cap)/\w.cell? ⟨b,off+t * 3+2,none⟩=some (.int .i64 L[t].root) /\
  SlV intR p w (.slice a L[t].cols.length cap) L[t].cols:=by
 obtain ⟨cs,h1,a,cap,rfl,h2,h3,h4⟩:=h.get t ht
 exact ⟨a,cap,h1 0 (by decide),h1 1 (by decide),h1 2 (by decide),a,cap,rfl,h2,h3,h4⟩
end
open Go.Lib (hid)
section
open Go.RowKit
def ixN (p:Nat->Bool) (n:Nat):Int:=idxOf p (List.range n)
def anyN (p:Nat->Bool) (n:Nat):Bool:=(List.range n).any p
theorem ixN_hit {p:Nat->Bool} {n k:Nat} (hk:k<n) (h:p k=true) (hb:∀ t,t<k->p t=false):ixN p n=k :=
 idxOf_hit (L:=List.range n) (by simpa using hk) (by simpa using h) (fun t ht=>by simpa using hb t ht)
theorem ixN_miss {p:Nat->Bool} {n:Nat} (hb:∀ t,t<n->p t=false):ixN p n=-1 :=
 idxOf_miss (fun t ht=>by simpa using hb t (by simpa using ht))
theorem ixN_any (p:Nat->Bool) (n:Nat):decide (0<=ixN p n)=anyN p n:=by
 unfold anyN
 cases h:(List.range n).any p
 · rw [List.any_eq_false] at h
   have:=ixN_miss (p:=p) (n:=n) (fun t ht=>by simpa using h t (List.mem_range.2 ht))
   rw [this];rfl
 · have h1:=idxOf_neg p (List.range n)
   simp only [decide_eq_true_eq]
   unfold ixN
   rcases Int.lt_or_le (idxOf p (List.range n)) 0 with h2|h2
   · rw [List.any_eq_true] at h
     obtain ⟨x,hx,hp⟩:=h
     rw [h1 h2 x hx] at hp;cases hp
   · exact h2
theorem ixN_list {α:Type} (p:α->Bool) (L:List α) (q:Nat->Bool) (h:∀ t (ht:t<L.length),q t=p L[t]):ixN q L.length=idxOf p L:=by
 rcases Int.lt_or_le (idxOf p L) 0 with h2|h2
 · have h3:=idxOf_neg p L h2
   have h4:=idxOf_bd p L
   rw [ixN_miss (fun t ht=>by rw [h t ht];exact h3 _ (List.getElem_mem ht))]
   omega
 · obtain ⟨i,hi,h3,h4,h5⟩:=idxOf_spec p L h2
   rw [h3,ixN_hit hi (by rw [h i hi];exact h4) (fun t ht=>by rw [h t (by omega)];exact h5 t ht)]
theorem anyN_list {α:Type} (p:α->Bool) (L:List α) (q:Nat->Bool) (h:∀ t (ht:t<L.length),q t=p L[t]):anyN q L.length=L.any p:=by
 cases hl:L.any p
 · rw [List.any_eq_false] at hl
   unfold anyN
   rw [List.any_eq_false]
   intro t ht
   have ht':=List.mem_range.1 ht
   rw [h t ht']
   exact hl _ (List.getElem_mem ht')
 · rw [List.any_eq_true] at hl
   obtain ⟨x,hx,hp⟩:=hl
   obtain ⟨t,ht,rfl⟩:=List.getElem_of_mem hx
   unfold anyN
   rw [List.any_eq_true]
   exact ⟨t,List.mem_range.2 ht,by rw [h t ht];exact hp⟩
theorem ixf_tab {a:Option Addr} {n c g:Nat} {cb:Array Value} {x0 x1 x2 x3:Nat->Value} (p:Nat->Bool) {w:World} (eg:∀ args w,(callFunc g args).run Tryz.prog w=.ok (.enter g args) w) (hn:n<=140737488355328)
 (ha:0<n->∃ b off,a=some ⟨b,off,none⟩/\b<w.heap.size/\∀ t,t<n->w.cell? ⟨b,off+t * 4,none⟩=some (x0 t)/\w.cell? ⟨b,off+t * 4+1,none⟩=some (x1 t)/\w.cell? ⟨b,off+t * 4+2,none⟩=some (x2 t)/\w.cell? ⟨b,off+t * 4+3,none⟩=some (x3 t))
 (hp:∀ t,t<n->∀ w1,Below w.heap.size w w1->Calls Tryz.prog g (#[.agg #[x0 t,x1 t,x2 t,x3 t]] ++ cb) w1 fun e w2=>e=.returned (.bool (p t))/\Below w1.heap.size w1 w2) :
 Calls Tryz.prog 129 #[.slice a n c,.func (.func g) #[] cb] w fun e w'=>e=.returned (.int .i64 (ixN p n))/\Below w.heap.size w w':=by
 have HA:=hid ha
 have HP:=hid hp
 clear ha hp
 go_enter Tryz.func129,Tryz.ntmps129
 go_wp2_with fail
 go_loopw [8] (fun i wr=>∃ k:Nat,k<=n/\i=.int .i64 k/\Hid (∀ t,t<k->p t=false)/\Hid (Below w.heap.size w wr)) (fun i _=>n - (intOf i).toNat)
 case atStart=>exact ⟨0,Nat.zero_le _,rfl,(fun t ht=>by omega),Below.refl _ _⟩
 case round =>
  obtain ⟨k,hk,rfl,HF,HB⟩:=hrel
  by_cases hlt:k<n
  · obtain ⟨b,off,rfl,hbl,hcs⟩:=HA.out (by omega)
    obtain ⟨h0,h1,h2,h3⟩:=hcs k hlt
    have c0:=(HB.out.cell (p:=⟨b,off+k * 4,none⟩) hbl).trans h0
    have c1:=(HB.out.cell (p:=⟨b,off+k * 4+1,none⟩) hbl).trans h1
    have c2:=(HB.out.cell (p:=⟨b,off+k * 4+2,none⟩) hbl).trans h2
    have c3:=(HB.out.cell (p:=⟨b,off+k * 4+3,none⟩) hbl).trans h3
    have con:=HP.out k hlt wr HB.out
    clear hcs h0 h1 h2 h3
    cases hpk:p k
    · rw [hpk] at con
      have HPK:=hid hpk
      clear hpk
      go_wp2_with fail
      refine con.mono ?_
      rintro e w2 ⟨rfl,b2⟩
      have B2:=hid (HB.out.trans (b2.mono HB.out.size))
      clear b2 con c0 c1 c2 c3
      go_wp2_with fail
      go_roundw
      case rel=>exact ⟨k+1,by omega,by go_num,(fun t ht=>by
       rcases Nat.lt_or_eq_of_le (Nat.le_of_lt_succ ht) with h|rfl
       · exact HF.out t h
       · exact HPK.out),B2⟩
      case measure=>simp [intOf];omega
    · rw [hpk] at con
      have HPK:=hid hpk
      clear hpk
      go_wp2_with fail
      refine con.mono ?_
      rintro e w2 ⟨rfl,b2⟩
      have B2:=hid (HB.out.trans (b2.mono HB.out.size))
      clear b2 con c0 c1 c2 c3
      go_wp2_with fail
      go_ret
      exact ⟨by rw [ixN_hit hlt HPK.out HF.out];rfl,B2.out⟩
  · obtain rfl:k=n:=by omega
    go_wp2_with fail
    go_ret
    exact ⟨by rw [ixN_miss HF.out];rfl,HB.out⟩
theorem cf_tab {a:Option Addr} {n c g:Nat} {cb:Array Value} {x0 x1 x2 x3:Nat->Value} (p:Nat->Bool) {w:World} (eg:∀ args w,(callFunc g args).run Tryz.prog w=.ok (.enter g args) w) (hn:n<=140737488355328)
 (ha:0<n->∃ b off,a=some ⟨b,off,none⟩/\b<w.heap.size/\∀ t,t<n->w.cell? ⟨b,off+t * 4,none⟩=some (x0 t)/\w.cell? ⟨b,off+t * 4+1,none⟩=some (x1 t)/\w.cell? ⟨b,off+t * 4+2,none⟩=some (x2 t)/\w.cell? ⟨b,off+t * 4+3,none⟩=some (x3 t))
 (hp:∀ t,t<n->∀ w1,Below w.heap.size w w1->Calls Tryz.prog g (#[.agg #[x0 t,x1 t,x2 t,x3 t]] ++ cb) w1 fun e w2=>e=.returned (.bool (p t))/\Below w1.heap.size w1 w2) :
 Calls Tryz.prog 105 #[.slice a n c,.func (.func g) #[] cb] w fun e w'=>e=.returned (.bool (anyN p n))/\Below w.heap.size w w':=by
 have con:=ixf_tab (c:=c) (cb:=cb) p eg hn ha hp
 have hd:=ixN_any p n
 generalize ixN p n=z at con hd
 have HD:=hid hd
 clear ha hp eg hd
 go_enter Tryz.func105,Tryz.ntmps105
 go_wp2_with fail
 refine con.mono ?_
 rintro e w2 ⟨rfl,b2⟩
 have B2:=hid b2
 clear b2 con
 go_wp2_with fail
 go_ret
 exact ⟨by rw [<- HD.out];rfl,B2.out⟩
theorem ixf_str {a:Option Addr} {n c g:Nat} {cb:Array Value} {x0:Nat->Value} (p:Nat->Bool) {w:World} (eg:∀ args w,(callFunc g args).run Tryz.prog w=.ok (.enter g args) w) (hn:n<=140737488355328)
 (ha:0<n->∃ b off,a=some ⟨b,off,none⟩/\b<w.heap.size/\∀ t,t<n->w.cell? ⟨b,off+t,none⟩=some (x0 t))
 (hp:∀ t,t<n->∀ w1,Below w.heap.size w w1->Calls Tryz.prog g (#[x0 t] ++ cb) w1 fun e w2=>e=.returned (.bool (p t))/\Below w1.heap.size w1 w2) :
 Calls Tryz.prog 127 #[.slice a n c,.func (.func g) #[] cb] w fun e w'=>e=.returned (.int .i64 (ixN p n))/\Below w.heap.size w w':=by
 have HA:=hid ha
 have HP:=hid hp
 clear ha hp
 go_enter Tryz.func127,Tryz.ntmps127
 go_wp2_with fail
 go_loopw [8] (fun i wr=>∃ k:Nat,k<=n/\i=.int .i64 k/\Hid (∀ t,t<k->p t=false)/\Hid (Below w.heap.size w wr)) (fun i _=>n - (intOf i).toNat)
 case atStart=>exact ⟨0,Nat.zero_le _,rfl,(fun t ht=>by omega),Below.refl _ _⟩
 case round =>
  obtain ⟨k,hk,rfl,HF,HB⟩:=hrel
  by_cases hlt:k<n
  · obtain ⟨b,off,rfl,hbl,hcs⟩:=HA.out (by omega)
    have h0:=hcs k hlt
    have c0:=(HB.out.cell (p:=⟨b,off+k,none⟩) hbl).trans h0
    have con:=HP.out k hlt wr HB.out
    clear hcs h0
    cases hpk:p k
    · rw [hpk] at con
      have HPK:=hid hpk
      clear hpk
      go_wp2_with fail
      refine con.mono ?_
      rintro e w2 ⟨rfl,b2⟩
      have B2:=hid (HB.out.trans (b2.mono HB.out.size))
      clear b2 con c0
      go_wp2_with fail
      go_roundw
      case rel=>exact ⟨k+1,by omega,by go_num,(fun t ht=>by
       rcases Nat.lt_or_eq_of_le (Nat.le_of_lt_succ ht) with h|rfl
       · exact HF.out t h
       · exact HPK.out),B2⟩
      case measure=>simp [intOf];omega
    · rw [hpk] at con
      have HPK:=hid hpk
      clear hpk
      go_wp2_with fail
      refine con.mono ?_
      rintro e w2 ⟨rfl,b2⟩
      have B2:=hid (HB.out.trans (b2.mono HB.out.size))
      clear b2 con c0
      go_wp2_with fail
      go_ret
      exact ⟨by rw [ixN_hit hlt HPK.out HF.out];rfl,B2.out⟩
  · obtain rfl:k=n:=by omega
    go_wp2_with fail
    go_ret
    exact ⟨by rw [ixN_miss HF.out];rfl,HB.out⟩
theorem cf_str {a:Option Addr} {n c g:Nat} {cb:Array Value} {x0:Nat->Value} (p:Nat->Bool) {w:World} (eg:∀ args w,(callFunc g args).run Tryz.prog w=.ok (.enter g args) w) (hn:n<=140737488355328)
 (ha:0<n->∃ b off,a=some ⟨b,off,none⟩/\b<w.heap.size/\∀ t,t<n->w.cell? ⟨b,off+t,none⟩=some (x0 t))
 (hp:∀ t,t<n->∀ w1,Below w.heap.size w w1->Calls Tryz.prog g (#[x0 t] ++ cb) w1 fun e w2=>e=.returned (.bool (p t))/\Below w1.heap.size w1 w2) :
 Calls Tryz.prog 95 #[.slice a n c,.func (.func g) #[] cb] w fun e w'=>e=.returned (.bool (anyN p n))/\Below w.heap.size w w':=by
 have con:=ixf_str (c:=c) (cb:=cb) p eg hn ha hp
 have hd:=ixN_any p n
 generalize ixN p n=z at con hd
 have HD:=hid hd
 clear ha hp eg hd
 go_enter Tryz.func95,Tryz.ntmps95
 go_wp2_with fail
 refine con.mono ?_
 rintro e w2 ⟨rfl,b2⟩
 have B2:=hid b2
 clear b2 con
 go_wp2_with fail
 go_ret
 exact ⟨by rw [<- HD.out];rfl,B2.out⟩
theorem ixf_col {a:Option Addr} {n c g:Nat} {cb:Array Value} {x0 x1:Nat->Value} (p:Nat->Bool) {w:World} (eg:∀ args w,(callFunc g args).run Tryz.prog w=.ok (.enter g args) w) (hn:n<=140737488355328)
 (ha:0<n->∃ b off,a=some ⟨b,off,none⟩/\b<w.heap.size/\∀ t,t<n->w.cell? ⟨b,off+t * 2,none⟩=some (x0 t)/\w.cell? ⟨b,off+t * 2+1,none⟩=some (x1 t))
 (hp:∀ t,t<n->∀ w1,Below w.heap.size w w1->Calls Tryz.prog g (#[.agg #[x0 t,x1 t]] ++ cb) w1 fun e w2=>e=.returned (.bool (p t))/\Below w1.heap.size w1 w2) :
 Calls Tryz.prog 128 #[.slice a n c,.func (.func g) #[] cb] w fun e w'=>e=.returned (.int .i64 (ixN p n))/\Below w.heap.size w w':=by
 have HA:=hid ha
 have HP:=hid hp
 clear ha hp
 go_enter Tryz.func128,Tryz.ntmps128
 go_wp2_with fail
 go_loopw [8] (fun i wr=>∃ k:Nat,k<=n/\i=.int .i64 k/\Hid (∀ t,t<k->p t=false)/\Hid (Below w.heap.size w wr)) (fun i _=>n - (intOf i).toNat)
 case atStart=>exact ⟨0,Nat.zero_le _,rfl,(fun t ht=>by omega),Below.refl _ _⟩
 case round =>
  obtain ⟨k,hk,rfl,HF,HB⟩:=hrel
  by_cases hlt:k<n
  · obtain ⟨b,off,rfl,hbl,hcs⟩:=HA.out (by omega)
    obtain ⟨h0,h1⟩:=hcs k hlt
    have c0:=(HB.out.cell (p:=⟨b,off+k * 2,none⟩) hbl).trans h0
    have c1:=(HB.out.cell (p:=⟨b,off+k * 2+1,none⟩) hbl).trans h1
    have con:=HP.out k hlt wr HB.out
    clear hcs h0 h1
    cases hpk:p k
    · rw [hpk] at con
      have HPK:=hid hpk
      clear hpk
      go_wp2_with fail
      refine con.mono ?_
      rintro e w2 ⟨rfl,b2⟩
      have B2:=hid (HB.out.trans (b2.mono HB.out.size))
      clear b2 con c0 c1
      go_wp2_with fail
      go_roundw
      case rel=>exact ⟨k+1,by omega,by go_num,(fun t ht=>by
       rcases Nat.lt_or_eq_of_le (Nat.le_of_lt_succ ht) with h|rfl
       · exact HF.out t h
       · exact HPK.out),B2⟩
      case measure=>simp [intOf];omega
    · rw [hpk] at con
      have HPK:=hid hpk
      clear hpk
      go_wp2_with fail
      refine con.mono ?_
      rintro e w2 ⟨rfl,b2⟩
      have B2:=hid (HB.out.trans (b2.mono HB.out.size))
      clear b2 con c0 c1
      go_wp2_with fail
      go_ret
      exact ⟨by rw [ixN_hit hlt HPK.out HF.out];rfl,B2.out⟩
  · obtain rfl:k=n:=by omega
    go_wp2_with fail
    go_ret
    exact ⟨by rw [ixN_miss HF.out];rfl,HB.out⟩
theorem cf_col {a:Option Addr} {n c g:Nat} {cb:Array Value} {x0 x1:Nat->Value} (p:Nat->Bool) {w:World} (eg:∀ args w,(callFunc g args).run Tryz.prog w=.ok (.enter g args) w) (hn:n<=140737488355328)
 (ha:0<n->∃ b off,a=some ⟨b,off,none⟩/\b<w.heap.size/\∀ t,t<n->w.cell? ⟨b,off+t * 2,none⟩=some (x0 t)/\w.cell? ⟨b,off+t * 2+1,none⟩=some (x1 t))
 (hp:∀ t,t<n->∀ w1,Below w.heap.size w w1->Calls Tryz.prog g (#[.agg #[x0 t,x1 t]] ++ cb) w1 fun e w2=>e=.returned (.bool (p t))/\Below w1.heap.size w1 w2) :
 Calls Tryz.prog 97 #[.slice a n c,.func (.func g) #[] cb] w fun e w'=>e=.returned (.bool (anyN p n))/\Below w.heap.size w w':=by
 have con:=ixf_col (c:=c) (cb:=cb) p eg hn ha hp
 have hd:=ixN_any p n
 generalize ixN p n=z at con hd
 have HD:=hid hd
 clear ha hp eg hd
 go_enter Tryz.func97,Tryz.ntmps97
 go_wp2_with fail
 refine con.mono ?_
 rintro e w2 ⟨rfl,b2⟩
 have B2:=hid b2
 clear b2 con
 go_wp2_with fail
 go_ret
 exact ⟨by rw [<- HD.out];rfl,B2.out⟩
theorem ixf_ix {a:Option Addr} {n c g:Nat} {cb:Array Value} {x0 x1 x2:Nat->Value} (p:Nat->Bool) {w:World} (eg:∀ args w,(callFunc g args).run Tryz.prog w=.ok (.enter g args) w) (hn:n<=140737488355328)
 (ha:0<n->∃ b off,a=some ⟨b,off,none⟩/\b<w.heap.size/\∀ t,t<n->w.cell? ⟨b,off+t * 3,none⟩=some (x0 t)/\w.cell? ⟨b,off+t * 3+1,none⟩=some (x1 t)/\w.cell? ⟨b,off+t * 3+2,none⟩=some (x2 t))
 (hp:∀ t,t<n->∀ w1,Below w.heap.size w w1->Calls Tryz.prog g (#[.agg #[x0 t,x1 t,x2 t]] ++ cb) w1 fun e w2=>e=.returned (.bool (p t))/\Below w1.heap.size w1 w2) :
 Calls Tryz.prog 132 #[.slice a n c,.func (.func g) #[] cb] w fun e w'=>e=.returned (.int .i64 (ixN p n))/\Below w.heap.size w w':=by
 have HA:=hid ha
 have HP:=hid hp
 clear ha hp
 go_enter Tryz.func132,Tryz.ntmps132
 go_wp2_with fail
 go_loopw [8] (fun i wr=>∃ k:Nat,k<=n/\i=.int .i64 k/\Hid (∀ t,t<k->p t=false)/\Hid (Below w.heap.size w wr)) (fun i _=>n - (intOf i).toNat)
 case atStart=>exact ⟨0,Nat.zero_le _,rfl,(fun t ht=>by omega),Below.refl _ _⟩
 case round =>
  obtain ⟨k,hk,rfl,HF,HB⟩:=hrel
  by_cases hlt:k<n
  · obtain ⟨b,off,rfl,hbl,hcs⟩:=HA.out (by omega)
    obtain ⟨h0,h1,h2⟩:=hcs k hlt
    have c0:=(HB.out.cell (p:=⟨b,off+k * 3,none⟩) hbl).trans h0
    have c1:=(HB.out.cell (p:=⟨b,off+k * 3+1,none⟩) hbl).trans h1
    have c2:=(HB.out.cell (p:=⟨b,off+k * 3+2,none⟩) hbl).trans h2
    have con:=HP.out k hlt wr HB.out
    clear hcs h0 h1 h2
    cases hpk:p k
    · rw [hpk] at con
      have HPK:=hid hpk
      clear hpk
      go_wp2_with fail
      refine con.mono ?_
      rintro e w2 ⟨rfl,b2⟩
      have B2:=hid (HB.out.trans (b2.mono HB.out.size))
      clear b2 con c0 c1 c2
      go_wp2_with fail
      go_roundw
      case rel=>exact ⟨k+1,by omega,by go_num,(fun t ht=>by
       rcases Nat.lt_or_eq_of_le (Nat.le_of_lt_succ ht) with h|rfl
       · exact HF.out t h
       · exact HPK.out),B2⟩
      case measure=>simp [intOf];omega
    · rw [hpk] at con
      have HPK:=hid hpk
      clear hpk
      go_wp2_with fail
      refine con.mono ?_
      rintro e w2 ⟨rfl,b2⟩
      have B2:=hid (HB.out.trans (b2.mono HB.out.size))
      clear b2 con c0 c1 c2
      go_wp2_with fail
      go_ret
      exact ⟨by rw [ixN_hit hlt HPK.out HF.out];rfl,B2.out⟩
  · obtain rfl:k=n:=by omega
    go_wp2_with fail
    go_ret
    exact ⟨by rw [ixN_miss HF.out];rfl,HB.out⟩
theorem cf_ix {a:Option Addr} {n c g:Nat} {cb:Array Value} {x0 x1 x2:Nat->Value} (p:Nat->Bool) {w:World} (eg:∀ args w,(callFunc g args).run Tryz.prog w=.ok (.enter g args) w) (hn:n<=140737488355328)
 (ha:0<n->∃ b off,a=some ⟨b,off,none⟩/\b<w.heap.size/\∀ t,t<n->w.cell? ⟨b,off+t * 3,none⟩=some (x0 t)/\w.cell? ⟨b,off+t * 3+1,none⟩=some (x1 t)/\w.cell? ⟨b,off+t * 3+2,none⟩=some (x2 t))
 (hp:∀ t,t<n->∀ w1,Below w.heap.size w w1->Calls Tryz.prog g (#[.agg #[x0 t,x1 t,x2 t]] ++ cb) w1 fun e w2=>e=.returned (.bool (p t))/\Below w1.heap.size w1 w2) :
 Calls Tryz.prog 107 #[.slice a n c,.func (.func g) #[] cb] w fun e w'=>e=.returned (.bool (anyN p n))/\Below w.heap.size w w':=by
 have con:=ixf_ix (c:=c) (cb:=cb) p eg hn ha hp
 have hd:=ixN_any p n
 generalize ixN p n=z at con hd
 have HD:=hid hd
 clear ha hp eg hd
 go_enter Tryz.func107,Tryz.ntmps107
 go_wp2_with fail
 refine con.mono ?_
 rintro e w2 ⟨rfl,b2⟩
 have B2:=hid b2
 clear b2 con
 go_wp2_with fail
 go_ret
 exact ⟨by rw [<- HD.out];rfl,B2.out⟩
end
section
open Go.RowKit
def tabR:Rep Tab where
 sz:=4
 ok:=fun p w cs T=>∃ ac cc ai ci,cs=[.int .i64 T.id,.string T.name,.slice ac T.cols.length cc,.slice ai T.idx.length ci]/\SlV colR p w (.slice ac T.cols.length cc) T.cols/\SlV ixR p w (.slice ai T.idx.length ci) T.idx
 len:=by rintro p w cs x ⟨ac,cc,ai,ci,rfl,_⟩;rfl
 keep:=by rintro p w w' cs x ⟨ac,cc,ai,ci,h0,h1,h2⟩ hk;exact ⟨ac,cc,ai,ci,h0,h1.keep hk,h2.keep hk⟩
 weaken:=by rintro p q w cs x ⟨ac,cc,ai,ci,h0,h1,h2⟩ hk;exact ⟨ac,cc,ai,ci,h0,h1.weaken hk,h2.weaken hk⟩
 bound:=by rintro p w cs x ⟨ac,cc,ai,ci,h0,h1,h2⟩;exact ⟨ac,cc,ai,ci,h0,h1.bound,h2.bound⟩
theorem RowAt.tab {p:Nat->Prop} {w:World} {b off:Nat} {L:List Tab} (h:RowAt tabR p w (some ⟨b,off,none⟩) L) (t:Nat) (ht:t<L.length) :
 ∃ ac cc ai ci,w.cell? ⟨b,off+t * 4,none⟩=some (.int .i64 L[t].id)/\w.cell? ⟨b,off+t * 4+1,none⟩=some (.string L[t].name)/\w.cell? ⟨b,off+t * 4+2,none⟩=some (.slice ac L[t].cols.length cc)/\w.cell? ⟨b,off+t * 4+3,none⟩=some (.slice ai L[t].idx.length ci) /\
  TabV p w (.agg #[.int .i64 L[t].id,.string L[t].name,.slice ac L[t].cols.length cc,.slice ai L[t].idx.length ci]) L[t]:=by
 obtain ⟨cs,h1,ac,cc,ai,ci,rfl,h2,h3⟩:=h.get t ht
 exact ⟨ac,cc,ai,ci,h1 0 (by decide),h1 1 (by decide),h1 2 (by decide),h1 3 (by decide),ac,cc,ai,ci,rfl,h2,h3⟩
def nAt (L:List Tab) (t:Nat):ByteArray:=((L[t]?).map (·.name)).getD noStr
theorem nAt_eq {L:List Tab} {t:Nat} (h:t<L.length):nAt L t=L[t].name:=by
 unfold nAt
 rw [List.getElem?_eq_getElem h];rfl
end
section
open Go.RowKit
def namedB (s:ByteArray):Bool:=decide (s.size ≠ 0) && decide (s.size<=12)
def twiceB:List ByteArray->Bool
 | []=>false
 | x :: l=>l.any (sEq x) || twiceB l
def findT (C:List Tab) (name:ByteArray):Int:=idxOf (fun t=>sEq t.name name) C
def tabAt (C:List Tab) (i:Int):Tab:=C.getD i.toNat default
def createE (C:List Tab) (st:Stmt):Int :=
 if !namedB st.table || decide (st.cols.length<1) || decide (6<st.cols.length) || st.cols.any (fun c=>!namedB c.1) then 1
 else if st.cols.any (fun c=>decide (c.2 ≠ 1) && decide (c.2 ≠ 2)) then 52
 else if twiceB (st.cols.map (·.1)) || decide (0<=findT C st.table) then 51
 else if C.length=8 then 2 else 0
def createT (C:List Tab) (st:Stmt):List Tab:=C ++ [⟨C.length+1,st.table,st.cols,[]⟩]
def ixCols (T:Tab) (st:Stmt):List Int:=st.names.map (colOf T)
def indexE (C:List Tab) (st:Stmt) (rt:Int):Int :=
 if !namedB st.name || decide (st.names.length<1) || decide (6<st.names.length) || decide (rt<0) || decide (400<=rt) then 1
 else if findT C st.table<0 then 50
 else if (ixCols (tabAt C (findT C st.table)) st).any (fun n=>decide (n=-1)) then 50
 else if twiceB st.names || C.any (fun t=>t.idx.any (fun i=>sEq i.name st.name)) then 51
 else if (tabAt C (findT C st.table)).idx.length=4 then 2 else 0
def indexT (C:List Tab) (st:Stmt) (rt:Int):List Tab:=C.modify (findT C st.table).toNat fun t=>{ t with idx:=t.idx ++ [⟨st.name,ixCols t st,rt⟩] }
def renameE (C:List Tab) (st:Stmt):Int :=
 if !namedB st.join then 1
 else if findT C st.table<0 then 50
 else if colOf (tabAt C (findT C st.table)) st.name<0 then 50
 else if 0<=colOf (tabAt C (findT C st.table)) st.join then 51 else 0
def renameT (C:List Tab) (st:Stmt):List Tab:=C.modify (findT C st.table).toNat fun t=>{ t with cols:=t.cols.modify (colOf t st.name).toNat fun c=>(st.join,c.2) }
def catV (C:List Tab) (st:Stmt) (rt:Int):Int × List Tab :=
 if st.kind=1 then (createE C st,if createE C st=0 then createT C st else C)
 else if st.kind=2 then (indexE C st rt,if indexE C st rt=0 then indexT C st rt else C)
 else if st.kind=3 then (renameE C st,if renameE C st=0 then renameT C st else C)
 else (1,C)
def anyNeg (L:List Int):Bool:=L.any fun n=>decide (n=-1)
theorem sEq_self (a:ByteArray):sEq a a=true:=(sEq_iff a a).2 rfl
theorem sEq_ne {a b:ByteArray} (h:a ≠ b):sEq a b=false:=by
 cases hc:sEq a b
 · rfl
 · exact absurd ((sEq_iff a b).1 hc) h
theorem twiceB_iff:∀ l:List ByteArray,twiceB l=false ↔ l.Nodup
 | []=>by simp [twiceB]
 | x :: l=>by
  rw [twiceB,List.nodup_cons,Bool.or_eq_false_iff,twiceB_iff l,List.any_eq_false]
  constructor
  · rintro ⟨h1,h2⟩
    exact ⟨fun hx=>absurd (sEq_self x) (by simpa using h1 x hx),h2⟩
  · rintro ⟨h1,h2⟩
    exact ⟨fun y hy=>by
     have:x ≠ y:=fun e=>h1 (e ▸ hy)
     simp [sEq_ne this],h2⟩
theorem colOf_lt (T:Tab) (s:ByteArray):-1<=colOf T s/\colOf T s<T.cols.length:=idxOf_bd _ _
theorem findT_lt (C:List Tab) (s:ByteArray):-1<=findT C s/\findT C s<C.length:=idxOf_bd _ _
end
section
open Go Go.RowKit
structure CatSm (C:List Tab):Prop where
 len:C.length<=8
 tab:∀ t ∈ C,t.name.size<=12/\t.cols.length<=6/\t.idx.length<=4/\(∀ c ∈ t.cols,c.1.size<=12)/\∀ x ∈ t.idx,x.name.size<=12/\x.cols.length<=6
theorem sm_nil:CatSm []:=⟨Nat.zero_le _,fun t h=>by cases h⟩
theorem named_size {s:ByteArray} (h:namedB s=true):s.size<=12:=by
 unfold namedB at h
 simp only [Bool.and_eq_true,decide_eq_true_eq] at h
 exact h.2
theorem mem_modify_cases {α:Type} (f:α->α) {x:α}:∀ (l:List α) (k:Nat),x ∈ l.modify k f->x ∈ l \/ ∃ y ∈ l,x=f y
 | [],k,h=>by
  rw [List.modify_nil] at h
  cases h
 | a :: l,0,h=>by
  rw [List.modify_zero_cons] at h
  rcases List.mem_cons.1 h with h|h
  · exact Or.inr ⟨a,List.mem_cons_self,h⟩
  · exact Or.inl (List.mem_cons_of_mem _ h)
 | a :: l,k+1,h=>by
  rw [List.modify_succ_cons] at h
  rcases List.mem_cons.1 h with h|h
  · exact Or.inl (h ▸ List.mem_cons_self)
  · rcases mem_modify_cases f l k h with h|⟨y,hy,h⟩
    · exact Or.inl (List.mem_cons_of_mem _ h)
    · exact Or.inr ⟨y,List.mem_cons_of_mem _ hy,h⟩
theorem create_sm {C:List Tab} {st:Stmt} (h:CatSm C) (he:createE C st=0):CatSm (createT C st):=by
 unfold createE at he
 by_cases c1:(!namedB st.table || decide (st.cols.length<1) || decide (6<st.cols.length) || st.cols.any (fun c=>!namedB c.1))=true
 · rw [if_pos c1] at he;exact absurd he (by decide)
 rw [if_neg c1] at he
 by_cases c2:st.cols.any (fun c=>decide (c.2 ≠ 1) && decide (c.2 ≠ 2))=true
 · rw [if_pos c2] at he;exact absurd he (by decide)
 rw [if_neg c2] at he
 by_cases c3:(twiceB (st.cols.map (·.1)) || decide (0<=findT C st.table))=true
 · rw [if_pos c3] at he;exact absurd he (by decide)
 rw [if_neg c3] at he
 by_cases c4:C.length=8
 · rw [if_pos c4] at he;exact absurd he (by decide)
 simp only [Bool.or_eq_true,Bool.not_eq_true',decide_eq_true_eq,List.any_eq_true,not_or,not_exists,not_and,Bool.not_eq_false] at c1
 obtain ⟨⟨⟨d1,d2⟩,d3⟩,d4⟩:=c1
 have hl:=h.len
 unfold createT
 refine ⟨by simp only [List.length_append,List.length_cons,List.length_nil];omega,fun t ht=>?_⟩
 rcases List.mem_append.1 ht with ht|ht
 · exact h.tab t ht
 · obtain rfl:=List.mem_singleton.1 ht
   exact ⟨named_size d1,by show st.cols.length<=6;omega,Nat.zero_le _,fun c hc=>named_size (d4 c hc),fun x hx=>by cases hx⟩
theorem index_sm {C:List Tab} {st:Stmt} {rt:Int} (h:CatSm C) (he:indexE C st rt=0):CatSm (indexT C st rt):=by
 unfold indexE at he
 by_cases c1:(!namedB st.name || decide (st.names.length<1) || decide (6<st.names.length) || decide (rt<0) || decide (400<=rt))=true
 · rw [if_pos c1] at he;exact absurd he (by decide)
 rw [if_neg c1] at he
 by_cases c2:findT C st.table<0
 · rw [if_pos c2] at he;exact absurd he (by decide)
 rw [if_neg c2] at he
 by_cases c3:((ixCols (tabAt C (findT C st.table)) st).any (fun n=>decide (n=-1)))=true
 · rw [if_pos c3] at he;exact absurd he (by decide)
 rw [if_neg c3] at he
 by_cases c4:(twiceB st.names || C.any (fun t=>t.idx.any (fun i=>sEq i.name st.name)))=true
 · rw [if_pos c4] at he;exact absurd he (by decide)
 rw [if_neg c4] at he
 by_cases c5:(tabAt C (findT C st.table)).idx.length=4
 · rw [if_pos c5] at he;exact absurd he (by decide)
 simp only [Bool.or_eq_true,Bool.not_eq_true',decide_eq_true_eq,not_or,Bool.not_eq_false] at c1
 obtain ⟨⟨⟨⟨d1,d2⟩,d3⟩,-⟩,-⟩:=c1
 obtain ⟨k,hk⟩:∃ k:Nat,(findT C st.table).toNat=k:=⟨_,rfl⟩
 have hc5:(C.getD k default).idx.length ≠ 4:=by rw [<- hk];exact c5
 unfold indexT
 rw [hk]
 refine ⟨by rw [List.length_modify];exact h.len,fun t ht=>?_⟩
 obtain ⟨j,hj,rfl⟩:=List.getElem_of_mem ht
 have hj':j<C.length:=by rw [List.length_modify] at hj;exact hj
 rw [List.getElem_modify]
 obtain ⟨h1,h2,h3,h4,h5⟩:=h.tab _ (List.getElem_mem hj')
 by_cases e:k=j
 · rw [if_pos e]
   have hd:C.getD k default=C[j]:=by rw [e,List.getD_eq_getElem?_getD,List.getElem?_eq_getElem hj'];rfl
   rw [hd] at hc5
   refine ⟨h1,h2,by simp only [List.length_append,List.length_cons,List.length_nil];omega,h4,fun x hx=>?_⟩
   rcases List.mem_append.1 hx with hx|hx
   · exact h5 x hx
   · obtain rfl:=List.mem_singleton.1 hx
     exact ⟨named_size d1,by show (ixCols _ st).length<=6;unfold ixCols;rw [List.length_map];omega⟩
 · rw [if_neg e]
   exact ⟨h1,h2,h3,h4,h5⟩
theorem rename_sm {C:List Tab} {st:Stmt} (h:CatSm C) (he:renameE C st=0):CatSm (renameT C st):=by
 unfold renameE at he
 by_cases c1:(!namedB st.join)=true
 · rw [if_pos c1] at he;exact absurd he (by decide)
 have hj:namedB st.join=true:=by simpa using c1
 unfold renameT
 refine ⟨by rw [List.length_modify];exact h.len,fun t ht=>?_⟩
 rcases mem_modify_cases _ _ _ ht with ht|⟨y,hy,rfl⟩
 · exact h.tab t ht
 · obtain ⟨h1,h2,h3,h4,h5⟩:=h.tab y hy
   refine ⟨h1,by show (List.modify _ _ _).length<=6;rw [List.length_modify];exact h2,h3,fun c hc=>?_,h5⟩
   rcases mem_modify_cases _ _ _ hc with hc|⟨d,hd,rfl⟩
   · exact h4 c hc
   · exact named_size hj
theorem catV_sm {C:List Tab} {st:Stmt} {rt:Int} (h:CatSm C):CatSm (catV C st rt).2:=by
 unfold catV
 by_cases k1:st.kind=1
 · rw [if_pos k1]
   show CatSm (if createE C st=0 then createT C st else C)
   split
   · rename_i he;exact create_sm h he
   · exact h
 rw [if_neg k1]
 by_cases k2:st.kind=2
 · rw [if_pos k2]
   show CatSm (if indexE C st rt=0 then indexT C st rt else C)
   split
   · rename_i he;exact index_sm h he
   · exact h
 rw [if_neg k2]
 by_cases k3:st.kind=3
 · rw [if_pos k3]
   show CatSm (if renameE C st=0 then renameT C st else C)
   split
   · rename_i he;exact rename_sm h he
   · exact h
 rw [if_neg k3]
 exact h
end
end Go.Proofs.YtjcpccadmcglgaaGreatDoor
