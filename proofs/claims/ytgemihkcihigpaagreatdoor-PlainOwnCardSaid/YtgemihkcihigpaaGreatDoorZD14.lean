/- Tables, conditions, values and sets in memory. -/
import Derived.Test.YtgemihkcihigpaaGreatDoorProg
import Derived.Test.YtgemihkcihigpaaGreatDoorZD10
import Derived.Test.YtgemihkcihigpaaGreatDoorZD8
set_option linter.unusedVariables false
set_option linter.unusedSimpArgs false
set_option maxRecDepth 100000
set_option maxHeartbeats 64000000
namespace Go.Proofs.YtgemihkcihigpaaGreatDoor
section
open Go.RowKit
theorem RowAt.flat {α:Type} {p:Nat->Prop} {w:World} {b off:Nat} {L:List α} {sz:Nat} {enc:α->List Value} {hl:∀ x,(enc x).length=sz}
 (h:RowAt (flatR sz enc hl) p w (some ⟨b,off,none⟩) L) (t:Nat) (ht:t<L.length) (j:Nat) (hj:j<sz):w.cell? ⟨b,off+t * sz+j,none⟩=(enc L[t])[j]? := by
 obtain ⟨cs,h1,rfl⟩:=h.get t ht
 exact h1 j hj
def colEnc (c:ByteArray × Int):List Value:=[.string c.1,.int .i64 c.2]
def colR:Rep (ByteArray × Int):=flatR 2 colEnc fun _=>rfl
def valEnc (v:Val):List Value:=[.int .i64 v.kind,.int .i64 v.n,.string v.s]
def valR:Rep Val:=flatR 3 valEnc fun _=>rfl
def condEnc (c:Cond):List Value:=[.string c.col,.int .i64 c.op,.int .i64 c.val.kind,.int .i64 c.val.n,.string c.val.s]
def condR:Rep Cond:=flatR 5 condEnc fun _=>rfl
def setEnc (x:SetV):List Value:=[.string x.col,.string x.col2,.int .i64 x.val.kind,.int .i64 x.val.n,.string x.val.s]
def setR:Rep SetV:=flatR 5 setEnc fun _=>rfl
def Cond.enc (c:Cond):Value:=.agg #[.string c.col,.int .i64 c.op,.int .i64 c.val.kind,.int .i64 c.val.n,.string c.val.s]
def ixR:Rep Ix where
 sz:=3
 ok:=fun p w cs x=>∃ a cap,cs=[.string x.name,.slice a x.cols.length cap,.int .i64 x.root]/\x.cols.length<=cap/\x.cols.length<=140737488355328/\RowAt intR p w a x.cols
 len:=by rintro p w cs x ⟨a,cap,rfl,_⟩;rfl
 keep:=by rintro p w w' cs x ⟨a,cap,h0,h1,h2,h3⟩ hk;exact ⟨a,cap,h0,h1,h2,h3.keep hk⟩
 weaken:=by rintro p q w cs x ⟨a,cap,h0,h1,h2,h3⟩ hk;exact ⟨a,cap,h0,h1,h2,h3.weaken hk⟩
 bound:=by rintro p w cs x ⟨a,cap,h0,h1,h2,h3⟩;exact ⟨a,cap,h0,h1,h2,h3.bound⟩
def TabV (p:Nat->Prop) (w:World) (v:Value) (T:Tab):Prop :=
 ∃ ac cc ai ci,v=.agg #[.int .i64 T.id,.string T.name,.slice ac T.cols.length cc,.slice ai T.idx.length ci]/\SlV colR p w (.slice ac T.cols.length cc) T.cols/\SlV ixR p w (.slice ai T.idx.length ci) T.idx
theorem TabV.keep {p:Nat->Prop} {w w':World} {v:Value} {T:Tab} (h:TabV p w v T) (hk:∀ k,p k->k<w.heap.size->w'.heap[k]? = w.heap[k]?):TabV p w' v T:=by
 obtain ⟨ac,cc,ai,ci,h0,h1,h2⟩:=h
 exact ⟨ac,cc,ai,ci,h0,h1.keep hk,h2.keep hk⟩
theorem TabV.below {p:Nat->Prop} {w w':World} {v:Value} {T:Tab} (h:TabV p w v T) (hb:Below w.heap.size w w'):TabV p w' v T:=h.keep fun k _ hk=>hb.block k hk
theorem TabV.bound {p:Nat->Prop} {w:World} {v:Value} {T:Tab} (h:TabV p w v T):TabV (fun k=>p k/\k<w.heap.size) w v T:=by
 obtain ⟨ac,cc,ai,ci,h0,h1,h2⟩:=h
 exact ⟨ac,cc,ai,ci,h0,h1.bound,h2.bound⟩
theorem TabV.weaken {p q:Nat->Prop} {w:World} {v:Value} {T:Tab} (h:TabV p w v T) (hk:∀ k,p k->q k):TabV q w v T:=by
 obtain ⟨ac,cc,ai,ci,h0,h1,h2⟩:=h
 exact ⟨ac,cc,ai,ci,h0,h1.weaken hk,h2.weaken hk⟩
theorem SlV.row {α:Type} {R:Rep α} {p:Nat->Prop} {w:World} {a:Option Addr} {n cap:Nat} {L:List α} (h:SlV R p w (.slice a n cap) L):n=L.length/\n<=cap/\n<=140737488355328/\RowAt R p w a L:=by
 obtain ⟨a',cap',h0,h1,h2,h3⟩:=h
 simp only [Value.slice.injEq] at h0
 obtain ⟨rfl,rfl,rfl⟩:=h0
 exact ⟨rfl,h1,h2,h3⟩
theorem SlV.shape {α:Type} {R:Rep α} {p:Nat->Prop} {w:World} {v:Value} {L:List α} (h:SlV R p w v L):∃ a cap,v=.slice a L.length cap:=by
 obtain ⟨a,cap,h0,_⟩:=h
 exact ⟨a,cap,h0⟩
theorem RowAt.col {p:Nat->Prop} {w:World} {b off:Nat} {L:List (ByteArray × Int)} (h:RowAt colR p w (some ⟨b,off,none⟩) L) (t:Nat) (ht:t<L.length) :
 w.cell? ⟨b,off+t * 2,none⟩=some (.string L[t].1)/\w.cell? ⟨b,off+t * 2+1,none⟩=some (.int .i64 L[t].2) :=
 ⟨h.flat t ht 0 (by omega),h.flat t ht 1 (by omega)⟩
theorem RowAt.val {p:Nat->Prop} {w:World} {b off:Nat} {L:List Val} (h:RowAt valR p w (some ⟨b,off,none⟩) L) (t:Nat) (ht:t<L.length) :
 w.cell? ⟨b,off+t * 3,none⟩=some (.int .i64 L[t].kind)/\w.cell? ⟨b,off+t * 3+1,none⟩=some (.int .i64 L[t].n)/\w.cell? ⟨b,off+t * 3+2,none⟩=some (.string L[t].s) :=
 ⟨h.flat t ht 0 (by omega),h.flat t ht 1 (by omega),h.flat t ht 2 (by omega)⟩
theorem RowAt.cond {p:Nat->Prop} {w:World} {b off:Nat} {L:List Cond} (h:RowAt condR p w (some ⟨b,off,none⟩) L) (t:Nat) (ht:t<L.length) :
 w.cell? ⟨b,off+t * 5,none⟩=some (.string L[t].col)/\w.cell? ⟨b,off+t * 5+1,none⟩=some (.int .i64 L[t].op)/\w.cell? ⟨b,off+t * 5+2,none⟩=some (.int .i64 L[t].val.kind) /\
  w.cell? ⟨b,off+t * 5+3,none⟩=some (.int .i64 L[t].val.n)/\w.cell? ⟨b,off+t * 5+4,none⟩=some (.string L[t].val.s) :=
 ⟨h.flat t ht 0 (by omega),h.flat t ht 1 (by omega),h.flat t ht 2 (by omega),h.flat t ht 3 (by omega),h.flat t ht 4 (by omega)⟩
theorem RowAt.set {p:Nat->Prop} {w:World} {b off:Nat} {L:List SetV} (h:RowAt setR p w (some ⟨b,off,none⟩) L) (t:Nat) (ht:t<L.length) :
 w.cell? ⟨b,off+t * 5,none⟩=some (.string L[t].col)/\w.cell? ⟨b,off+t * 5+1,none⟩=some (.string L[t].col2)/\w.cell? ⟨b,off+t * 5+2,none⟩=some (.int .i64 L[t].val.kind) /\
  w.cell? ⟨b,off+t * 5+3,none⟩=some (.int .i64 L[t].val.n)/\w.cell? ⟨b,off+t * 5+4,none⟩=some (.string L[t].val.s) :=
 ⟨h.flat t ht 0 (by omega),h.flat t ht 1 (by omega),h.flat t ht 2 (by omega),h.flat t ht 3 (by omega),h.flat t ht 4 (by omega)⟩
theorem RowAt.ix {p:Nat->Prop} {w:World} {b off:Nat} {L:List Ix} (h:RowAt ixR p w (some ⟨b,off,none⟩) L) (t:Nat) (ht:t<L.length) :
 ∃ a cap,w.cell? ⟨b,off+t * 3,none⟩=some (.string L[t].name)/\w.cell? ⟨b,off+t * 3+1,none⟩=some (.slice a L[t].cols.length cap)/\w.cell? ⟨b,off+t * 3+2,none⟩=some (.int .i64 L[t].root) /\
  SlV intR p w (.slice a L[t].cols.length cap) L[t].cols:=by
 obtain ⟨cs,h1,a,cap,rfl,h2,h3,h4⟩:=h.get t ht
 exact ⟨a,cap,h1 0 (by decide),h1 1 (by decide),h1 2 (by decide),a,cap,rfl,h2,h3,h4⟩
end
open Go.Lib (hid)
section
open Go.RowKit
def ixN (p:Nat->Bool) (n:Nat):Int:=idxOf p (List.range n)
def anyN (p:Nat->Bool) (n:Nat):Bool:=(List.range n).any p
theorem ixN_hit {p:Nat->Bool} {n k:Nat} (hk:k<n) (h:p k=true) (hb:∀ t,t<k->p t=false):ixN p n=k :=
 idxOf_hit (L:=List.range n) (by simpa using hk) (by simpa using h) (fun t ht=>by simpa using hb t ht)
theorem ixN_miss {p:Nat->Bool} {n:Nat} (hb:∀ t,t<n->p t=false):ixN p n=-1 :=
 idxOf_miss (fun t ht=>by simpa using hb t (by simpa using ht))
theorem ixN_any (p:Nat->Bool) (n:Nat):decide (0<=ixN p n)=anyN p n:=by
 unfold anyN
 cases h:(List.range n).any p
 · rw [List.any_eq_false] at h
   have:=ixN_miss (p:=p) (n:=n) (fun t ht=>by simpa using h t (List.mem_range.2 ht))
   rw [this];rfl
 · have h1:=idxOf_neg p (List.range n)
   simp only [decide_eq_true_eq]
   unfold ixN
   rcases Int.lt_or_le (idxOf p (List.range n)) 0 with h2|h2
   · rw [List.any_eq_true] at h
     obtain ⟨x,hx,hp⟩:=h
     rw [h1 h2 x hx] at hp;cases hp
   · exact h2
theorem ixN_list {α:Type} (p:α->Bool) (L:List α) (q:Nat->Bool) (h:∀ t (ht:t<L.length),q t=p L[t]):ixN q L.length=idxOf p L:=by
 rcases Int.lt_or_le (idxOf p L) 0 with h2|h2
 · have h3:=idxOf_neg p L h2
   have h4:=idxOf_bd p L
   rw [ixN_miss (fun t ht=>by rw [h t ht];exact h3 _ (List.getElem_mem ht))]
   omega
 · obtain ⟨i,hi,h3,h4,h5⟩:=idxOf_spec p L h2
   rw [h3,ixN_hit hi (by rw [h i hi];exact h4) (fun t ht=>by rw [h t (by omega)];exact h5 t ht)]
theorem anyN_list {α:Type} (p:α->Bool) (L:List α) (q:Nat->Bool) (h:∀ t (ht:t<L.length),q t=p L[t]):anyN q L.length=L.any p:=by
 cases hl:L.any p
 · rw [List.any_eq_false] at hl
   unfold anyN
   rw [List.any_eq_false]
   intro t ht
   have ht':=List.mem_range.1 ht
   rw [h t ht']
   exact hl _ (List.getElem_mem ht')
 · rw [List.any_eq_true] at hl
   obtain ⟨x,hx,hp⟩:=hl
   obtain ⟨t,ht,rfl⟩:=List.getElem_of_mem hx
   unfold anyN
   rw [List.any_eq_true]
   exact ⟨t,List.mem_range.2 ht,by rw [h t ht];exact hp⟩
theorem ixf_tab {a:Option Addr} {n c g:Nat} {cb:Array Value} {x0 x1 x2 x3:Nat->Value} (p:Nat->Bool) {w:World} (eg:∀ args w,(callFunc g args).run Tryz.prog w=.ok (.enter g args) w) (hn:n<=140737488355328)
 (ha:0<n->∃ b off,a=some ⟨b,off,none⟩/\b<w.heap.size/\∀ t,t<n->w.cell? ⟨b,off+t * 4,none⟩=some (x0 t)/\w.cell? ⟨b,off+t * 4+1,none⟩=some (x1 t)/\w.cell? ⟨b,off+t * 4+2,none⟩=some (x2 t)/\w.cell? ⟨b,off+t * 4+3,none⟩=some (x3 t))
 (hp:∀ t,t<n->∀ w1,Below w.heap.size w w1->Calls Tryz.prog g (#[.agg #[x0 t,x1 t,x2 t,x3 t]] ++ cb) w1 fun e w2=>e=.returned (.bool (p t))/\Below w1.heap.size w1 w2) :
 Calls Tryz.prog 79 #[.slice a n c,.func (.func g) #[] cb] w fun e w'=>e=.returned (.int .i64 (ixN p n))/\Below w.heap.size w w':=by
 have HA:=hid ha
 have HP:=hid hp
 clear ha hp
 go_enter Tryz.func79,Tryz.ntmps79
 go_wp2_with fail
 go_loopw [8] (fun i wr=>∃ k:Nat,k<=n/\i=.int .i64 k/\Hid (∀ t,t<k->p t=false)/\Hid (Below w.heap.size w wr)) (fun i _=>n - (intOf i).toNat)
 case atStart=>exact ⟨0,Nat.zero_le _,rfl,(fun t ht=>by omega),Below.refl _ _⟩
 case round =>
  obtain ⟨k,hk,rfl,HF,HB⟩:=hrel
  by_cases hlt:k<n
  · obtain ⟨b,off,rfl,hbl,hcs⟩:=HA.out (by omega)
    obtain ⟨h0,h1,h2,h3⟩:=hcs k hlt
    have c0:=(HB.out.cell (p:=⟨b,off+k * 4,none⟩) hbl).trans h0
    have c1:=(HB.out.cell (p:=⟨b,off+k * 4+1,none⟩) hbl).trans h1
    have c2:=(HB.out.cell (p:=⟨b,off+k * 4+2,none⟩) hbl).trans h2
    have c3:=(HB.out.cell (p:=⟨b,off+k * 4+3,none⟩) hbl).trans h3
    have con:=HP.out k hlt wr HB.out
    clear hcs h0 h1 h2 h3
    cases hpk:p k
    · rw [hpk] at con
      have HPK:=hid hpk
      clear hpk
      go_wp2_with fail
      refine con.mono ?_
      rintro e w2 ⟨rfl,b2⟩
      have B2:=hid (HB.out.trans (b2.mono HB.out.size))
      clear b2 con c0 c1 c2 c3
      go_wp2_with fail
      go_roundw
      case rel=>exact ⟨k+1,by omega,by go_num,(fun t ht=>by
       rcases Nat.lt_or_eq_of_le (Nat.le_of_lt_succ ht) with h|rfl
       · exact HF.out t h
       · exact HPK.out),B2⟩
      case measure=>simp [intOf];omega
    · rw [hpk] at con
      have HPK:=hid hpk
      clear hpk
      go_wp2_with fail
      refine con.mono ?_
      rintro e w2 ⟨rfl,b2⟩
      have B2:=hid (HB.out.trans (b2.mono HB.out.size))
      clear b2 con c0 c1 c2 c3
      go_wp2_with fail
      go_ret
      exact ⟨by rw [ixN_hit hlt HPK.out HF.out];rfl,B2.out⟩
  · obtain rfl:k=n:=by omega
    go_wp2_with fail
    go_ret
    exact ⟨by rw [ixN_miss HF.out];rfl,HB.out⟩
theorem cf_tab {a:Option Addr} {n c g:Nat} {cb:Array Value} {x0 x1 x2 x3:Nat->Value} (p:Nat->Bool) {w:World} (eg:∀ args w,(callFunc g args).run Tryz.prog w=.ok (.enter g args) w) (hn:n<=140737488355328)
 (ha:0<n->∃ b off,a=some ⟨b,off,none⟩/\b<w.heap.size/\∀ t,t<n->w.cell? ⟨b,off+t * 4,none⟩=some (x0 t)/\w.cell? ⟨b,off+t * 4+1,none⟩=some (x1 t)/\w.cell? ⟨b,off+t * 4+2,none⟩=some (x2 t)/\w.cell? ⟨b,off+t * 4+3,none⟩=some (x3 t))
 (hp:∀ t,t<n->∀ w1,Below w.heap.size w w1->Calls Tryz.prog g (#[.agg #[x0 t,x1 t,x2 t,x3 t]] ++ cb) w1 fun e w2=>e=.returned (.bool (p t))/\Below w1.heap.size w1 w2) :
 Calls Tryz.prog 170 #[.slice a n c,.func (.func g) #[] cb] w fun e w'=>e=.returned (.bool (anyN p n))/\Below w.heap.size w w':=by
 have con:=ixf_tab (c:=c) (cb:=cb) p eg hn ha hp
 have hd:=ixN_any p n
 generalize ixN p n=z at con hd
 have HD:=hid hd
 clear ha hp eg hd
 go_enter Tryz.func170,Tryz.ntmps170
 go_wp2_with fail
 refine con.mono ?_
 rintro e w2 ⟨rfl,b2⟩
 have B2:=hid b2
 clear b2 con
 go_wp2_with fail
 go_ret
 exact ⟨by rw [<- HD.out];rfl,B2.out⟩
theorem ixf_cond {a:Option Addr} {n c g:Nat} {cb:Array Value} {x0 x1 x2 x3 x4:Nat->Value} (p:Nat->Bool) {w:World} (eg:∀ args w,(callFunc g args).run Tryz.prog w=.ok (.enter g args) w) (hn:n<=140737488355328)
 (ha:0<n->∃ b off,a=some ⟨b,off,none⟩/\b<w.heap.size/\∀ t,t<n->w.cell? ⟨b,off+t * 5,none⟩=some (x0 t)/\w.cell? ⟨b,off+t * 5+1,none⟩=some (x1 t)/\w.cell? ⟨b,off+t * 5+2,none⟩=some (x2 t)/\w.cell? ⟨b,off+t * 5+3,none⟩=some (x3 t)/\w.cell? ⟨b,off+t * 5+4,none⟩=some (x4 t))
 (hp:∀ t,t<n->∀ w1,Below w.heap.size w w1->Calls Tryz.prog g (#[.agg #[x0 t,x1 t,x2 t,x3 t,x4 t]] ++ cb) w1 fun e w2=>e=.returned (.bool (p t))/\Below w1.heap.size w1 w2) :
 Calls Tryz.prog 122 #[.slice a n c,.func (.func g) #[] cb] w fun e w'=>e=.returned (.int .i64 (ixN p n))/\Below w.heap.size w w':=by
 have HA:=hid ha
 have HP:=hid hp
 clear ha hp
 go_enter Tryz.func122,Tryz.ntmps122
 go_wp2_with fail
 go_loopw [8] (fun i wr=>∃ k:Nat,k<=n/\i=.int .i64 k/\Hid (∀ t,t<k->p t=false)/\Hid (Below w.heap.size w wr)) (fun i _=>n - (intOf i).toNat)
 case atStart=>exact ⟨0,Nat.zero_le _,rfl,(fun t ht=>by omega),Below.refl _ _⟩
 case round =>
  obtain ⟨k,hk,rfl,HF,HB⟩:=hrel
  by_cases hlt:k<n
  · obtain ⟨b,off,rfl,hbl,hcs⟩:=HA.out (by omega)
    obtain ⟨h0,h1,h2,h3,h4⟩:=hcs k hlt
    have c0:=(HB.out.cell (p:=⟨b,off+k * 5,none⟩) hbl).trans h0
    have c1:=(HB.out.cell (p:=⟨b,off+k * 5+1,none⟩) hbl).trans h1
    have c2:=(HB.out.cell (p:=⟨b,off+k * 5+2,none⟩) hbl).trans h2
    have c3:=(HB.out.cell (p:=⟨b,off+k * 5+3,none⟩) hbl).trans h3
    have c4:=(HB.out.cell (p:=⟨b,off+k * 5+4,none⟩) hbl).trans h4
    have con:=HP.out k hlt wr HB.out
    clear hcs h0 h1 h2 h3 h4
    cases hpk:p k
    · rw [hpk] at con
      have HPK:=hid hpk
      clear hpk
      go_wp2_with fail
      refine con.mono ?_
      rintro e w2 ⟨rfl,b2⟩
      have B2:=hid (HB.out.trans (b2.mono HB.out.size))
      clear b2 con c0 c1 c2 c3 c4
      go_wp2_with fail
      go_roundw
      case rel=>exact ⟨k+1,by omega,by go_num,(fun t ht=>by
       rcases Nat.lt_or_eq_of_le (Nat.le_of_lt_succ ht) with h|rfl
       · exact HF.out t h
       · exact HPK.out),B2⟩
      case measure=>simp [intOf];omega
    · rw [hpk] at con
      have HPK:=hid hpk
      clear hpk
      go_wp2_with fail
      refine con.mono ?_
      rintro e w2 ⟨rfl,b2⟩
      have B2:=hid (HB.out.trans (b2.mono HB.out.size))
      clear b2 con c0 c1 c2 c3 c4
      go_wp2_with fail
      go_ret
      exact ⟨by rw [ixN_hit hlt HPK.out HF.out];rfl,B2.out⟩
  · obtain rfl:k=n:=by omega
    go_wp2_with fail
    go_ret
    exact ⟨by rw [ixN_miss HF.out];rfl,HB.out⟩
theorem cf_cond {a:Option Addr} {n c g:Nat} {cb:Array Value} {x0 x1 x2 x3 x4:Nat->Value} (p:Nat->Bool) {w:World} (eg:∀ args w,(callFunc g args).run Tryz.prog w=.ok (.enter g args) w) (hn:n<=140737488355328)
 (ha:0<n->∃ b off,a=some ⟨b,off,none⟩/\b<w.heap.size/\∀ t,t<n->w.cell? ⟨b,off+t * 5,none⟩=some (x0 t)/\w.cell? ⟨b,off+t * 5+1,none⟩=some (x1 t)/\w.cell? ⟨b,off+t * 5+2,none⟩=some (x2 t)/\w.cell? ⟨b,off+t * 5+3,none⟩=some (x3 t)/\w.cell? ⟨b,off+t * 5+4,none⟩=some (x4 t))
 (hp:∀ t,t<n->∀ w1,Below w.heap.size w w1->Calls Tryz.prog g (#[.agg #[x0 t,x1 t,x2 t,x3 t,x4 t]] ++ cb) w1 fun e w2=>e=.returned (.bool (p t))/\Below w1.heap.size w1 w2) :
 Calls Tryz.prog 65 #[.slice a n c,.func (.func g) #[] cb] w fun e w'=>e=.returned (.bool (anyN p n))/\Below w.heap.size w w':=by
 have con:=ixf_cond (c:=c) (cb:=cb) p eg hn ha hp
 have hd:=ixN_any p n
 generalize ixN p n=z at con hd
 have HD:=hid hd
 clear ha hp eg hd
 go_enter Tryz.func65,Tryz.ntmps65
 go_wp2_with fail
 refine con.mono ?_
 rintro e w2 ⟨rfl,b2⟩
 have B2:=hid b2
 clear b2 con
 go_wp2_with fail
 go_ret
 exact ⟨by rw [<- HD.out];rfl,B2.out⟩
theorem ixf_row {a:Option Addr} {n c g:Nat} {cb:Array Value} {x0:Nat->Value} (p:Nat->Bool) {w:World} (eg:∀ args w,(callFunc g args).run Tryz.prog w=.ok (.enter g args) w) (hn:n<=140737488355328)
 (ha:0<n->∃ b off,a=some ⟨b,off,none⟩/\b<w.heap.size/\∀ t,t<n->w.cell? ⟨b,off+t,none⟩=some (x0 t))
 (hp:∀ t,t<n->∀ w1,Below w.heap.size w w1->Calls Tryz.prog g (#[x0 t] ++ cb) w1 fun e w2=>e=.returned (.bool (p t))/\Below w1.heap.size w1 w2) :
 Calls Tryz.prog 140 #[.slice a n c,.func (.func g) #[] cb] w fun e w'=>e=.returned (.int .i64 (ixN p n))/\Below w.heap.size w w':=by
 have HA:=hid ha
 have HP:=hid hp
 clear ha hp
 go_enter Tryz.func140,Tryz.ntmps140
 go_wp2_with fail
 go_loopw [8] (fun i wr=>∃ k:Nat,k<=n/\i=.int .i64 k/\Hid (∀ t,t<k->p t=false)/\Hid (Below w.heap.size w wr)) (fun i _=>n - (intOf i).toNat)
 case atStart=>exact ⟨0,Nat.zero_le _,rfl,(fun t ht=>by omega),Below.refl _ _⟩
 case round =>
  obtain ⟨k,hk,rfl,HF,HB⟩:=hrel
  by_cases hlt:k<n
  · obtain ⟨b,off,rfl,hbl,hcs⟩:=HA.out (by omega)
    have h0:=hcs k hlt
    have c0:=(HB.out.cell (p:=⟨b,off+k,none⟩) hbl).trans h0
    have con:=HP.out k hlt wr HB.out
    clear hcs h0
    cases hpk:p k
    · rw [hpk] at con
      have HPK:=hid hpk
      clear hpk
      go_wp2_with fail
      refine con.mono ?_
      rintro e w2 ⟨rfl,b2⟩
      have B2:=hid (HB.out.trans (b2.mono HB.out.size))
      clear b2 con c0
      go_wp2_with fail
      go_roundw
      case rel=>exact ⟨k+1,by omega,by go_num,(fun t ht=>by
       rcases Nat.lt_or_eq_of_le (Nat.le_of_lt_succ ht) with h|rfl
       · exact HF.out t h
       · exact HPK.out),B2⟩
      case measure=>simp [intOf];omega
    · rw [hpk] at con
      have HPK:=hid hpk
      clear hpk
      go_wp2_with fail
      refine con.mono ?_
      rintro e w2 ⟨rfl,b2⟩
      have B2:=hid (HB.out.trans (b2.mono HB.out.size))
      clear b2 con c0
      go_wp2_with fail
      go_ret
      exact ⟨by rw [ixN_hit hlt HPK.out HF.out];rfl,B2.out⟩
  · obtain rfl:k=n:=by omega
    go_wp2_with fail
    go_ret
    exact ⟨by rw [ixN_miss HF.out];rfl,HB.out⟩
theorem ixf_set {a:Option Addr} {n c g:Nat} {cb:Array Value} {x0 x1 x2 x3 x4:Nat->Value} (p:Nat->Bool) {w:World} (eg:∀ args w,(callFunc g args).run Tryz.prog w=.ok (.enter g args) w) (hn:n<=140737488355328)
 (ha:0<n->∃ b off,a=some ⟨b,off,none⟩/\b<w.heap.size/\∀ t,t<n->w.cell? ⟨b,off+t * 5,none⟩=some (x0 t)/\w.cell? ⟨b,off+t * 5+1,none⟩=some (x1 t)/\w.cell? ⟨b,off+t * 5+2,none⟩=some (x2 t)/\w.cell? ⟨b,off+t * 5+3,none⟩=some (x3 t)/\w.cell? ⟨b,off+t * 5+4,none⟩=some (x4 t))
 (hp:∀ t,t<n->∀ w1,Below w.heap.size w w1->Calls Tryz.prog g (#[.agg #[x0 t,x1 t,x2 t,x3 t,x4 t]] ++ cb) w1 fun e w2=>e=.returned (.bool (p t))/\Below w1.heap.size w1 w2) :
 Calls Tryz.prog 156 #[.slice a n c,.func (.func g) #[] cb] w fun e w'=>e=.returned (.int .i64 (ixN p n))/\Below w.heap.size w w':=by
 have HA:=hid ha
 have HP:=hid hp
 clear ha hp
 go_enter Tryz.func156,Tryz.ntmps156
 go_wp2_with fail
 go_loopw [8] (fun i wr=>∃ k:Nat,k<=n/\i=.int .i64 k/\Hid (∀ t,t<k->p t=false)/\Hid (Below w.heap.size w wr)) (fun i _=>n - (intOf i).toNat)
 case atStart=>exact ⟨0,Nat.zero_le _,rfl,(fun t ht=>by omega),Below.refl _ _⟩
 case round =>
  obtain ⟨k,hk,rfl,HF,HB⟩:=hrel
  by_cases hlt:k<n
  · obtain ⟨b,off,rfl,hbl,hcs⟩:=HA.out (by omega)
    obtain ⟨h0,h1,h2,h3,h4⟩:=hcs k hlt
    have c0:=(HB.out.cell (p:=⟨b,off+k * 5,none⟩) hbl).trans h0
    have c1:=(HB.out.cell (p:=⟨b,off+k * 5+1,none⟩) hbl).trans h1
    have c2:=(HB.out.cell (p:=⟨b,off+k * 5+2,none⟩) hbl).trans h2
    have c3:=(HB.out.cell (p:=⟨b,off+k * 5+3,none⟩) hbl).trans h3
    have c4:=(HB.out.cell (p:=⟨b,off+k * 5+4,none⟩) hbl).trans h4
    have con:=HP.out k hlt wr HB.out
    clear hcs h0 h1 h2 h3 h4
    cases hpk:p k
    · rw [hpk] at con
      have HPK:=hid hpk
      clear hpk
      go_wp2_with fail
      refine con.mono ?_
      rintro e w2 ⟨rfl,b2⟩
      have B2:=hid (HB.out.trans (b2.mono HB.out.size))
      clear b2 con c0 c1 c2 c3 c4
      go_wp2_with fail
      go_roundw
      case rel=>exact ⟨k+1,by omega,by go_num,(fun t ht=>by
       rcases Nat.lt_or_eq_of_le (Nat.le_of_lt_succ ht) with h|rfl
       · exact HF.out t h
       · exact HPK.out),B2⟩
      case measure=>simp [intOf];omega
    · rw [hpk] at con
      have HPK:=hid hpk
      clear hpk
      go_wp2_with fail
      refine con.mono ?_
      rintro e w2 ⟨rfl,b2⟩
      have B2:=hid (HB.out.trans (b2.mono HB.out.size))
      clear b2 con c0 c1 c2 c3 c4
      go_wp2_with fail
      go_ret
      exact ⟨by rw [ixN_hit hlt HPK.out HF.out];rfl,B2.out⟩
  · obtain rfl:k=n:=by omega
    go_wp2_with fail
    go_ret
    exact ⟨by rw [ixN_miss HF.out];rfl,HB.out⟩
theorem cf_set {a:Option Addr} {n c g:Nat} {cb:Array Value} {x0 x1 x2 x3 x4:Nat->Value} (p:Nat->Bool) {w:World} (eg:∀ args w,(callFunc g args).run Tryz.prog w=.ok (.enter g args) w) (hn:n<=140737488355328)
 (ha:0<n->∃ b off,a=some ⟨b,off,none⟩/\b<w.heap.size/\∀ t,t<n->w.cell? ⟨b,off+t * 5,none⟩=some (x0 t)/\w.cell? ⟨b,off+t * 5+1,none⟩=some (x1 t)/\w.cell? ⟨b,off+t * 5+2,none⟩=some (x2 t)/\w.cell? ⟨b,off+t * 5+3,none⟩=some (x3 t)/\w.cell? ⟨b,off+t * 5+4,none⟩=some (x4 t))
 (hp:∀ t,t<n->∀ w1,Below w.heap.size w w1->Calls Tryz.prog g (#[.agg #[x0 t,x1 t,x2 t,x3 t,x4 t]] ++ cb) w1 fun e w2=>e=.returned (.bool (p t))/\Below w1.heap.size w1 w2) :
 Calls Tryz.prog 134 #[.slice a n c,.func (.func g) #[] cb] w fun e w'=>e=.returned (.bool (anyN p n))/\Below w.heap.size w w':=by
 have con:=ixf_set (c:=c) (cb:=cb) p eg hn ha hp
 have hd:=ixN_any p n
 generalize ixN p n=z at con hd
 have HD:=hid hd
 clear ha hp eg hd
 go_enter Tryz.func134,Tryz.ntmps134
 go_wp2_with fail
 refine con.mono ?_
 rintro e w2 ⟨rfl,b2⟩
 have B2:=hid b2
 clear b2 con
 go_wp2_with fail
 go_ret
 exact ⟨by rw [<- HD.out];rfl,B2.out⟩
theorem ixf_str {a:Option Addr} {n c g:Nat} {cb:Array Value} {x0:Nat->Value} (p:Nat->Bool) {w:World} (eg:∀ args w,(callFunc g args).run Tryz.prog w=.ok (.enter g args) w) (hn:n<=140737488355328)
 (ha:0<n->∃ b off,a=some ⟨b,off,none⟩/\b<w.heap.size/\∀ t,t<n->w.cell? ⟨b,off+t,none⟩=some (x0 t))
 (hp:∀ t,t<n->∀ w1,Below w.heap.size w w1->Calls Tryz.prog g (#[x0 t] ++ cb) w1 fun e w2=>e=.returned (.bool (p t))/\Below w1.heap.size w1 w2) :
 Calls Tryz.prog 174 #[.slice a n c,.func (.func g) #[] cb] w fun e w'=>e=.returned (.int .i64 (ixN p n))/\Below w.heap.size w w':=by
 have HA:=hid ha
 have HP:=hid hp
 clear ha hp
 go_enter Tryz.func174,Tryz.ntmps174
 go_wp2_with fail
 go_loopw [8] (fun i wr=>∃ k:Nat,k<=n/\i=.int .i64 k/\Hid (∀ t,t<k->p t=false)/\Hid (Below w.heap.size w wr)) (fun i _=>n - (intOf i).toNat)
 case atStart=>exact ⟨0,Nat.zero_le _,rfl,(fun t ht=>by omega),Below.refl _ _⟩
 case round =>
  obtain ⟨k,hk,rfl,HF,HB⟩:=hrel
  by_cases hlt:k<n
  · obtain ⟨b,off,rfl,hbl,hcs⟩:=HA.out (by omega)
    have h0:=hcs k hlt
    have c0:=(HB.out.cell (p:=⟨b,off+k,none⟩) hbl).trans h0
    have con:=HP.out k hlt wr HB.out
    clear hcs h0
    cases hpk:p k
    · rw [hpk] at con
      have HPK:=hid hpk
      clear hpk
      go_wp2_with fail
      refine con.mono ?_
      rintro e w2 ⟨rfl,b2⟩
      have B2:=hid (HB.out.trans (b2.mono HB.out.size))
      clear b2 con c0
      go_wp2_with fail
      go_roundw
      case rel=>exact ⟨k+1,by omega,by go_num,(fun t ht=>by
       rcases Nat.lt_or_eq_of_le (Nat.le_of_lt_succ ht) with h|rfl
       · exact HF.out t h
       · exact HPK.out),B2⟩
      case measure=>simp [intOf];omega
    · rw [hpk] at con
      have HPK:=hid hpk
      clear hpk
      go_wp2_with fail
      refine con.mono ?_
      rintro e w2 ⟨rfl,b2⟩
      have B2:=hid (HB.out.trans (b2.mono HB.out.size))
      clear b2 con c0
      go_wp2_with fail
      go_ret
      exact ⟨by rw [ixN_hit hlt HPK.out HF.out];rfl,B2.out⟩
  · obtain rfl:k=n:=by omega
    go_wp2_with fail
    go_ret
    exact ⟨by rw [ixN_miss HF.out];rfl,HB.out⟩
theorem cf_str {a:Option Addr} {n c g:Nat} {cb:Array Value} {x0:Nat->Value} (p:Nat->Bool) {w:World} (eg:∀ args w,(callFunc g args).run Tryz.prog w=.ok (.enter g args) w) (hn:n<=140737488355328)
 (ha:0<n->∃ b off,a=some ⟨b,off,none⟩/\b<w.heap.size/\∀ t,t<n->w.cell? ⟨b,off+t,none⟩=some (x0 t))
 (hp:∀ t,t<n->∀ w1,Below w.heap.size w w1->Calls Tryz.prog g (#[x0 t] ++ cb) w1 fun e w2=>e=.returned (.bool (p t))/\Below w1.heap.size w1 w2) :
 Calls Tryz.prog 163 #[.slice a n c,.func (.func g) #[] cb] w fun e w'=>e=.returned (.bool (anyN p n))/\Below w.heap.size w w':=by
 have con:=ixf_str (c:=c) (cb:=cb) p eg hn ha hp
 have hd:=ixN_any p n
 generalize ixN p n=z at con hd
 have HD:=hid hd
 clear ha hp eg hd
 go_enter Tryz.func163,Tryz.ntmps163
 go_wp2_with fail
 refine con.mono ?_
 rintro e w2 ⟨rfl,b2⟩
 have B2:=hid b2
 clear b2 con
 go_wp2_with fail
 go_ret
 exact ⟨by rw [<- HD.out];rfl,B2.out⟩
theorem ixf_col {a:Option Addr} {n c g:Nat} {cb:Array Value} {x0 x1:Nat->Value} (p:Nat->Bool) {w:World} (eg:∀ args w,(callFunc g args).run Tryz.prog w=.ok (.enter g args) w) (hn:n<=140737488355328)
 (ha:0<n->∃ b off,a=some ⟨b,off,none⟩/\b<w.heap.size/\∀ t,t<n->w.cell? ⟨b,off+t * 2,none⟩=some (x0 t)/\w.cell? ⟨b,off+t * 2+1,none⟩=some (x1 t))
 (hp:∀ t,t<n->∀ w1,Below w.heap.size w w1->Calls Tryz.prog g (#[.agg #[x0 t,x1 t]] ++ cb) w1 fun e w2=>e=.returned (.bool (p t))/\Below w1.heap.size w1 w2) :
 Calls Tryz.prog 175 #[.slice a n c,.func (.func g) #[] cb] w fun e w'=>e=.returned (.int .i64 (ixN p n))/\Below w.heap.size w w':=by
 have HA:=hid ha
 have HP:=hid hp
 clear ha hp
 go_enter Tryz.func175,Tryz.ntmps175
 go_wp2_with fail
 go_loopw [8] (fun i wr=>∃ k:Nat,k<=n/\i=.int .i64 k/\Hid (∀ t,t<k->p t=false)/\Hid (Below w.heap.size w wr)) (fun i _=>n - (intOf i).toNat)
 case atStart=>exact ⟨0,Nat.zero_le _,rfl,(fun t ht=>by omega),Below.refl _ _⟩
 case round =>
  obtain ⟨k,hk,rfl,HF,HB⟩:=hrel
  by_cases hlt:k<n
  · obtain ⟨b,off,rfl,hbl,hcs⟩:=HA.out (by omega)
    obtain ⟨h0,h1⟩:=hcs k hlt
    have c0:=(HB.out.cell (p:=⟨b,off+k * 2,none⟩) hbl).trans h0
    have c1:=(HB.out.cell (p:=⟨b,off+k * 2+1,none⟩) hbl).trans h1
    have con:=HP.out k hlt wr HB.out
    clear hcs h0 h1
    cases hpk:p k
    · rw [hpk] at con
      have HPK:=hid hpk
      clear hpk
      go_wp2_with fail
      refine con.mono ?_
      rintro e w2 ⟨rfl,b2⟩
      have B2:=hid (HB.out.trans (b2.mono HB.out.size))
      clear b2 con c0 c1
      go_wp2_with fail
      go_roundw
      case rel=>exact ⟨k+1,by omega,by go_num,(fun t ht=>by
       rcases Nat.lt_or_eq_of_le (Nat.le_of_lt_succ ht) with h|rfl
       · exact HF.out t h
       · exact HPK.out),B2⟩
      case measure=>simp [intOf];omega
    · rw [hpk] at con
      have HPK:=hid hpk
      clear hpk
      go_wp2_with fail
      refine con.mono ?_
      rintro e w2 ⟨rfl,b2⟩
      have B2:=hid (HB.out.trans (b2.mono HB.out.size))
      clear b2 con c0 c1
      go_wp2_with fail
      go_ret
      exact ⟨by rw [ixN_hit hlt HPK.out HF.out];rfl,B2.out⟩
  · obtain rfl:k=n:=by omega
    go_wp2_with fail
    go_ret
    exact ⟨by rw [ixN_miss HF.out];rfl,HB.out⟩
theorem cf_col {a:Option Addr} {n c g:Nat} {cb:Array Value} {x0 x1:Nat->Value} (p:Nat->Bool) {w:World} (eg:∀ args w,(callFunc g args).run Tryz.prog w=.ok (.enter g args) w) (hn:n<=140737488355328)
 (ha:0<n->∃ b off,a=some ⟨b,off,none⟩/\b<w.heap.size/\∀ t,t<n->w.cell? ⟨b,off+t * 2,none⟩=some (x0 t)/\w.cell? ⟨b,off+t * 2+1,none⟩=some (x1 t))
 (hp:∀ t,t<n->∀ w1,Below w.heap.size w w1->Calls Tryz.prog g (#[.agg #[x0 t,x1 t]] ++ cb) w1 fun e w2=>e=.returned (.bool (p t))/\Below w1.heap.size w1 w2) :
 Calls Tryz.prog 165 #[.slice a n c,.func (.func g) #[] cb] w fun e w'=>e=.returned (.bool (anyN p n))/\Below w.heap.size w w':=by
 have con:=ixf_col (c:=c) (cb:=cb) p eg hn ha hp
 have hd:=ixN_any p n
 generalize ixN p n=z at con hd
 have HD:=hid hd
 clear ha hp eg hd
 go_enter Tryz.func165,Tryz.ntmps165
 go_wp2_with fail
 refine con.mono ?_
 rintro e w2 ⟨rfl,b2⟩
 have B2:=hid b2
 clear b2 con
 go_wp2_with fail
 go_ret
 exact ⟨by rw [<- HD.out];rfl,B2.out⟩
theorem ixf_ix {a:Option Addr} {n c g:Nat} {cb:Array Value} {x0 x1 x2:Nat->Value} (p:Nat->Bool) {w:World} (eg:∀ args w,(callFunc g args).run Tryz.prog w=.ok (.enter g args) w) (hn:n<=140737488355328)
 (ha:0<n->∃ b off,a=some ⟨b,off,none⟩/\b<w.heap.size/\∀ t,t<n->w.cell? ⟨b,off+t * 3,none⟩=some (x0 t)/\w.cell? ⟨b,off+t * 3+1,none⟩=some (x1 t)/\w.cell? ⟨b,off+t * 3+2,none⟩=some (x2 t))
 (hp:∀ t,t<n->∀ w1,Below w.heap.size w w1->Calls Tryz.prog g (#[.agg #[x0 t,x1 t,x2 t]] ++ cb) w1 fun e w2=>e=.returned (.bool (p t))/\Below w1.heap.size w1 w2) :
 Calls Tryz.prog 177 #[.slice a n c,.func (.func g) #[] cb] w fun e w'=>e=.returned (.int .i64 (ixN p n))/\Below w.heap.size w w':=by
 have HA:=hid ha
 have HP:=hid hp
 clear ha hp
 go_enter Tryz.func177,Tryz.ntmps177
 go_wp2_with fail
 go_loopw [8] (fun i wr=>∃ k:Nat,k<=n/\i=.int .i64 k/\Hid (∀ t,t<k->p t=false)/\Hid (Below w.heap.size w wr)) (fun i _=>n - (intOf i).toNat)
 case atStart=>exact ⟨0,Nat.zero_le _,rfl,(fun t ht=>by omega),Below.refl _ _⟩
 case round =>
  obtain ⟨k,hk,rfl,HF,HB⟩:=hrel
  by_cases hlt:k<n
  · obtain ⟨b,off,rfl,hbl,hcs⟩:=HA.out (by omega)
    obtain ⟨h0,h1,h2⟩:=hcs k hlt
    have c0:=(HB.out.cell (p:=⟨b,off+k * 3,none⟩) hbl).trans h0
    have c1:=(HB.out.cell (p:=⟨b,off+k * 3+1,none⟩) hbl).trans h1
    have c2:=(HB.out.cell (p:=⟨b,off+k * 3+2,none⟩) hbl).trans h2
    have con:=HP.out k hlt wr HB.out
    clear hcs h0 h1 h2
    cases hpk:p k
    · rw [hpk] at con
      have HPK:=hid hpk
      clear hpk
      go_wp2_with fail
      refine con.mono ?_
      rintro e w2 ⟨rfl,b2⟩
      have B2:=hid (HB.out.trans (b2.mono HB.out.size))
      clear b2 con c0 c1 c2
      go_wp2_with fail
      go_roundw
      case rel=>exact ⟨k+1,by omega,by go_num,(fun t ht=>by
       rcases Nat.lt_or_eq_of_le (Nat.le_of_lt_succ ht) with h|rfl
       · exact HF.out t h
       · exact HPK.out),B2⟩
      case measure=>simp [intOf];omega
    · rw [hpk] at con
      have HPK:=hid hpk
      clear hpk
      go_wp2_with fail
      refine con.mono ?_
      rintro e w2 ⟨rfl,b2⟩
      have B2:=hid (HB.out.trans (b2.mono HB.out.size))
      clear b2 con c0 c1 c2
      go_wp2_with fail
      go_ret
      exact ⟨by rw [ixN_hit hlt HPK.out HF.out];rfl,B2.out⟩
  · obtain rfl:k=n:=by omega
    go_wp2_with fail
    go_ret
    exact ⟨by rw [ixN_miss HF.out];rfl,HB.out⟩
theorem cf_ix {a:Option Addr} {n c g:Nat} {cb:Array Value} {x0 x1 x2:Nat->Value} (p:Nat->Bool) {w:World} (eg:∀ args w,(callFunc g args).run Tryz.prog w=.ok (.enter g args) w) (hn:n<=140737488355328)
 (ha:0<n->∃ b off,a=some ⟨b,off,none⟩/\b<w.heap.size/\∀ t,t<n->w.cell? ⟨b,off+t * 3,none⟩=some (x0 t)/\w.cell? ⟨b,off+t * 3+1,none⟩=some (x1 t)/\w.cell? ⟨b,off+t * 3+2,none⟩=some (x2 t))
 (hp:∀ t,t<n->∀ w1,Below w.heap.size w w1->Calls Tryz.prog g (#[.agg #[x0 t,x1 t,x2 t]] ++ cb) w1 fun e w2=>e=.returned (.bool (p t))/\Below w1.heap.size w1 w2) :
 Calls Tryz.prog 172 #[.slice a n c,.func (.func g) #[] cb] w fun e w'=>e=.returned (.bool (anyN p n))/\Below w.heap.size w w':=by
 have con:=ixf_ix (c:=c) (cb:=cb) p eg hn ha hp
 have hd:=ixN_any p n
 generalize ixN p n=z at con hd
 have HD:=hid hd
 clear ha hp eg hd
 go_enter Tryz.func172,Tryz.ntmps172
 go_wp2_with fail
 refine con.mono ?_
 rintro e w2 ⟨rfl,b2⟩
 have B2:=hid b2
 clear b2 con
 go_wp2_with fail
 go_ret
 exact ⟨by rw [<- HD.out];rfl,B2.out⟩
end
section
open Go.RowKit
def rAt (L:List (List Val)) (t:Nat):List Val:=(L[t]?).getD []
theorem rAt_eq {L:List (List Val)} {t:Nat} (h:t<L.length):rAt L t=L[t]:=by
 unfold rAt
 rw [List.getElem?_eq_getElem h];rfl
end
section
open Go.RowKit
end
end Go.Proofs.YtgemihkcihigpaaGreatDoor
