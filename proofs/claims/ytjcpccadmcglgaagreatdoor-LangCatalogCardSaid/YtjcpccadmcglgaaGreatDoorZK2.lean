/- Small plain lemmas on bytes, strings and worlds, over any program; nothing of one translat. -/
import Derived.WalkKit
import Derived.WalkSpells
import Derived.WalkLawsBesides
import Derived.Handy
import Derived.Lib.Hide
set_option linter.unusedVariables false
set_option linter.unusedSimpArgs false
set_option maxRecDepth 100000
set_option maxHeartbeats 64000000
namespace Go.Proofs.YtjcpccadmcglgaaGreatDoor
section
open Go.RowKit
theorem ret_int {k:IntKind} {a b:Int} (h:a=b):Ending.returned (.int k a)=.returned (.int k b):=by rw [h]
theorem ret_bool {a b:Bool} (h:a=b):Ending.returned (.bool a)=.returned (.bool b):=by rw [h]
theorem ret_str {a:ByteArray} {b:ByteArray} (h:a.data.toList=b.data.toList):Ending.returned (.string a)=.returned (.string b):=by
 obtain ⟨⟨a⟩⟩:=a
 obtain ⟨⟨b⟩⟩:=b
 simp at h
 rw [h]
def byteOf (n:Int):UInt8:=UInt8.ofNat (n % 256).toNat
def be:Nat->Int->List UInt8
 | 0,_=>[]
 | k+1,n=>be k (n / 256) ++ [byteOf n]
def clamp8 (n:Int):Nat:=(max 0 (min n 8)).toNat
theorem clamp8_le (n:Int):clamp8 n<=8:=by unfold clamp8;omega
theorem be_len:∀ (k:Nat) (n:Int),(be k n).length=k
 | 0,_=>rfl
 | k+1,n=>by simp [be,be_len k]
theorem be_front:∀ (j:Nat) (n:Int),be (j+1) n=byteOf (n / 256 ^ j) :: be j n
 | 0,n=>by simp [be]
 | j+1,n=>by
  rw [be,be_front j (n / 256),Int.ediv_ediv_of_nonneg (by omega)]
  have e:(256:Int) * 256 ^ j=256 ^ (j+1):=by rw [Int.pow_succ,Int.mul_comm]
  rw [e]
  simp [be]
theorem byteOf_congr {a b:Int} (h:a % 256=b % 256):byteOf a=byteOf b:=by unfold byteOf;rw [h]
theorem be_congr (a b:Int):∀ (j:Nat),(∀ i,i<j->(a / 256 ^ i) % 256=(b / 256 ^ i) % 256)->be j a=be j b
 | 0,_=>rfl
 | j+1,h=>by rw [be_front,be_front,be_congr a b j (fun i hi=>h i (by omega)),byteOf_congr (h j (by omega))]
theorem be_wrap (j:Nat) (n:Int) (h:j<=8):be j (IntKind.u64.wrap n)=be j n:=by
 refine be_congr _ _ j fun i hi=>?_
 rw [IntKind.wrap_u64]
 have h3:i=0 \/ i=1 \/ i=2 \/ i=3 \/ i=4 \/ i=5 \/ i=6 \/ i=7:=by omega
 rcases h3 with rfl|rfl|rfl|rfl|rfl|rfl|rfl|rfl <;> simp only [Int.reducePow] <;> omega
theorem bytes_app (a b:List UInt8):(⟨a.toArray⟩:ByteArray) ++ ⟨b.toArray⟩=⟨(a ++ b).toArray⟩:=by
 apply ByteArray.ext
 simp
theorem pow256_le (n:Int) (j:Nat):0<=IntKind.u64.wrap n / 256 ^ j/\IntKind.u64.wrap n / 256 ^ j<=18446744073709551615:=by
 have h0:0<=IntKind.u64.wrap n:=by rw [IntKind.wrap_u64];omega
 have h1:IntKind.u64.wrap n<=18446744073709551615:=by rw [IntKind.wrap_u64];omega
 have hp:(0:Int)<256 ^ j:=Int.pow_pos (by omega)
 exact ⟨Int.ediv_nonneg h0 (by omega),Int.le_trans (Int.ediv_le_self _ h0) h1⟩
theorem or_shift16 (b a:Nat) (hb:b<65536) (ha:a<65536):bits .or .u32 ((b:Int) * 65536) (a:Int)=((b * 65536+a:Nat):Int):=by
 have h:=u32_or_nat (b * 65536) a (by omega) (by omega)
 rw [nat_join 16 (b * 65536) a (by omega) (by omega)] at h
 rw [<- h]
 congr 1
theorem or_shift8 (x y:Int) (hx:x % 256=0) (h0:0<=y) (h1:y<256):bits .or .i64 x y=IntKind.i64.wrap (x+y):=by
 unfold bits
 have e:(BitVec.ofInt 64 x ||| BitVec.ofInt 64 y).toNat=(x % 18446744073709551616).toNat+(y % 18446744073709551616).toNat:=by
  rw [BitVec.toNat_or,BitVec.toNat_ofInt,BitVec.toNat_ofInt]
  exact nat_join 8 _ _ (by omega) (by omega)
 show IntKind.i64.wrap ((BitVec.ofInt 64 x ||| BitVec.ofInt 64 y).toNat:Int)=_
 rw [e,IntKind.wrap_i64,IntKind.wrap_i64]
 omega
theorem be_add (x:Nat):∀ (y:Nat) (n:Int),be (x+y) n=be x (n / 256 ^ y) ++ be y n
 | 0,n=>by simp [be]
 | y+1,n=>by
  have e:n / 256 ^ (y+1)=n / 256 / 256 ^ y:=by
   rw [Int.ediv_ediv_of_nonneg (by omega),Int.pow_succ,Int.mul_comm]
  show be (x+y) (n / 256) ++ [byteOf n]=_
  rw [be_add x y (n / 256),e,be,List.append_assoc]
theorem clamp8_of (n:Int) (h0:0<=n) (h1:n<=8):((clamp8 n:Nat):Int)=n:=by unfold clamp8;omega
theorem clamp8_neg (n:Int) (h:n<=0):clamp8 n=0:=by unfold clamp8;omega
theorem clamp8_big (n:Int) (h:8<=n):clamp8 n=8:=by unfold clamp8;omega
theorem conv_tail {P:Program} (w:World) (src e dst T:TypeId) (hs:P.underlying src=some (.slice e)) (he:P.underlying e=some (.int .u8)) (hd:P.underlying dst=some .string)
 (L:List Int) (off k cap:Nat) (hk:off+k<=L.length) :
 (convert src dst (.slice (some ⟨w.heap.size,off,none⟩) k cap)).run P (w.alloc (.cells (L.map (Value.int .u8)).toArray T)) =
  .ok (.string (strOfNums ((L.drop off).take k))) (w.alloc (.cells (L.map (Value.int .u8)).toArray T)):=by
 refine run_convert_bytes_arg _ src e hs he w.heap.size off k cap ((L.drop off).take k) (by simp;omega) (fun i hi=>?_) dst hd
 rw [World.cell?_alloc_mark]
 simp [List.getD,hi,List.getElem?_eq_getElem (show off+i<L.length by omega)]
theorem put_b7 (n:Int):IntKind.u64.wrap n / 72057594037927936 % 256=(n / 256 / 256 / 256 / 256 / 256 / 256 / 256) % 256:=by rw [IntKind.wrap_u64];omega
theorem put_b6 (n:Int):IntKind.u64.wrap n / 281474976710656 % 256=(n / 256 / 256 / 256 / 256 / 256 / 256) % 256:=by rw [IntKind.wrap_u64];omega
theorem put_b5 (n:Int):IntKind.u64.wrap n / 1099511627776 % 256=(n / 256 / 256 / 256 / 256 / 256) % 256:=by rw [IntKind.wrap_u64];omega
theorem put_b4 (n:Int):IntKind.u64.wrap n / 4294967296 % 256=(n / 256 / 256 / 256 / 256) % 256:=by rw [IntKind.wrap_u64];omega
theorem put_b3 (n:Int):IntKind.u64.wrap n / 16777216 % 256=(n / 256 / 256 / 256) % 256:=by rw [IntKind.wrap_u64];omega
theorem put_b2 (n:Int):IntKind.u64.wrap n / 65536 % 256=(n / 256 / 256) % 256:=by rw [IntKind.wrap_u64];omega
theorem put_b1 (n:Int):IntKind.u64.wrap n / 256 % 256=(n / 256) % 256:=by rw [IntKind.wrap_u64];omega
theorem put_b0 (n:Int):IntKind.u64.wrap n % 256=n % 256:=by rw [IntKind.wrap_u64];omega
end
section
open Go.RowKit
theorem below_drewN {B:Nat} {a w:World} (h:Below B a w):∀ n,Below B a (w.drewN n):=fun _=>⟨h.os,h.tape,h.output,h.size,h.block⟩
structure Rep (α:Type) where
 sz:Nat
 ok:(Nat->Prop)->World->List Value->α->Prop
 len:∀ {p w cs x},ok p w cs x->cs.length=sz
 keep:∀ {p w w' cs x},ok p w cs x->(∀ k,p k->k<w.heap.size->w'.heap[k]? = w.heap[k]?)->ok p w' cs x
 weaken:∀ {p q w cs x},ok p w cs x->(∀ k,p k->q k)->ok q w cs x
 bound:∀ {p w cs x},ok p w cs x->ok (fun k=>p k/\k<w.heap.size) w cs x
structure Live (w:World) (b off n:Nat):Prop where
 lt:b<w.heap.size
 free:∀ j,j<n->w.frozen? ⟨b,off+j,none⟩=false
theorem Live.keep {w w':World} {b off n:Nat} (h:Live w b off n) (e:w'.heap[b]? = w.heap[b]?):Live w' b off n:=by
 refine ⟨?_,fun j hj=>(World.frozen?_of_block (w:=w) e).trans (h.free j hj)⟩
 rw [Array.getElem?_eq_getElem h.lt] at e
 exact (Array.getElem?_eq_some_iff.1 e).1
theorem Live.of_block {w:World} {b off n:Nat} {cs:Array Value} {T:TypeId} (h:w.heap[b]? = some (.cells cs T (0,0))):Live w b off n :=
 ⟨(Array.getElem?_eq_some_iff.1 h).1,fun j _=>by simp [World.frozen?,h]⟩
theorem Live.sub {w:World} {b off n off' n':Nat} (h:Live w b off n) (h1:off<=off') (h2:off'+n'<=off+n):Live w b off' n' :=
 ⟨h.lt,fun j hj=>by
  have:=h.free (off' - off+j) (by omega)
  rwa [show off+(off' - off+j)=off'+j by omega] at this⟩
def RowAt {α:Type} (R:Rep α) (p:Nat->Prop) (w:World) (a:Option Addr) (L:List α):Prop :=
 L=[] \/ ∃ b off,a=some ⟨b,off,none⟩/\p b/\Live w b off (L.length * R.sz)/\∀ t (ht:t<L.length),∃ cs,(∀ j,j<R.sz->w.cell? ⟨b,off+t * R.sz+j,none⟩=cs[j]?)/\R.ok p w cs L[t]
theorem RowAt.keep {α:Type} {R:Rep α} {p:Nat->Prop} {w w':World} {a:Option Addr} {L:List α} (h:RowAt R p w a L) (hk:∀ k,p k->k<w.heap.size->w'.heap[k]? = w.heap[k]?):RowAt R p w' a L:=by
 rcases h with h|⟨b,off,ha,hp,hb,h⟩
 · exact Or.inl h
 · refine Or.inr ⟨b,off,ha,hp,?_,fun t ht=>?_⟩
   · exact hb.keep (hk b hp hb.lt)
   · obtain ⟨cs,h1,h2⟩:=h t ht
     exact ⟨cs,fun j hj=>(World.cell?_of_block (hk b hp hb.lt)).trans (h1 j hj),R.keep h2 hk⟩
theorem RowAt.weaken {α:Type} {R:Rep α} {p q:Nat->Prop} {w:World} {a:Option Addr} {L:List α} (h:RowAt R p w a L) (hq:∀ k,p k->q k):RowAt R q w a L:=by
 rcases h with h|⟨b,off,ha,hp,hb,h⟩
 · exact Or.inl h
 · exact Or.inr ⟨b,off,ha,hq b hp,hb,fun t ht=>by
    obtain ⟨cs,h1,h2⟩:=h t ht
    exact ⟨cs,h1,R.weaken h2 hq⟩⟩
theorem RowAt.bound {α:Type} {R:Rep α} {p:Nat->Prop} {w:World} {a:Option Addr} {L:List α} (h:RowAt R p w a L):RowAt R (fun k=>p k/\k<w.heap.size) w a L:=by
 rcases h with h|⟨b,off,ha,hp,hb,h⟩
 · exact Or.inl h
 · exact Or.inr ⟨b,off,ha,⟨hp,hb.lt⟩,hb,fun t ht=>by
    obtain ⟨cs,h1,h2⟩:=h t ht
    exact ⟨cs,h1,R.bound h2⟩⟩
theorem RowAt.below {α:Type} {R:Rep α} {p:Nat->Prop} {w w':World} {a:Option Addr} {L:List α} (h:RowAt R p w a L) (hb:Below w.heap.size w w'):RowAt R p w' a L :=
 h.keep fun k _ hk=>hb.block k hk
theorem Rep.below {α:Type} (R:Rep α) {p:Nat->Prop} {w w':World} {cs:List Value} {x:α} (h:R.ok p w cs x) (hb:Below w.heap.size w w'):R.ok p w' cs x :=
 R.keep h fun k _ hk=>hb.block k hk
theorem RowAt.nil {α:Type} {R:Rep α} {p:Nat->Prop} {w:World} {a:Option Addr}:RowAt R p w a []:=Or.inl rfl
theorem RowAt.get {α:Type} {R:Rep α} {p:Nat->Prop} {w:World} {b off:Nat} {L:List α} (h:RowAt R p w (some ⟨b,off,none⟩) L) (t:Nat) (ht:t<L.length) :
 ∃ cs,(∀ j,j<R.sz->w.cell? ⟨b,off+t * R.sz+j,none⟩=cs[j]?)/\R.ok p w cs L[t]:=by
 rcases h with h|⟨b',off',ha,_,_,h⟩
 · rw [h] at ht;cases ht
 · simp only [Option.some.injEq,Addr.mk.injEq] at ha
   obtain ⟨rfl,rfl,_⟩:=ha
   exact h t ht
theorem RowAt.addr {α:Type} {R:Rep α} {p:Nat->Prop} {w:World} {a:Option Addr} {L:List α} (h:RowAt R p w a L) (hL:L ≠ []):∃ b off,a=some ⟨b,off,none⟩/\p b/\b<w.heap.size:=by
 rcases h with h|⟨b,off,ha,hp,hb,_⟩
 · exact absurd h hL
 · exact ⟨b,off,ha,hp,hb.lt⟩
theorem RowAt.live {α:Type} {R:Rep α} {p:Nat->Prop} {w:World} {b off:Nat} {L:List α} (h:RowAt R p w (some ⟨b,off,none⟩) L) (hL:L ≠ []):p b/\Live w b off (L.length * R.sz):=by
 rcases h with h|⟨b',off',ha,hp,hb,_⟩
 · exact absurd h hL
 · simp only [Option.some.injEq,Addr.mk.injEq] at ha
   obtain ⟨rfl,rfl,_⟩:=ha
   exact ⟨hp,hb⟩
def intR:Rep Int where
 sz:=1
 ok:=fun _ _ cs x=>cs=[.int .i64 x]
 len:=by rintro p w cs x rfl;rfl
 keep:=fun h _=>h
 weaken:=fun h _=>h
 bound:=fun h=>h
def strR:Rep ByteArray where
 sz:=1
 ok:=fun _ _ cs x=>cs=[.string x]
 len:=by rintro p w cs x rfl;rfl
 keep:=fun h _=>h
 weaken:=fun h _=>h
 bound:=fun h=>h
def flatR {α:Type} (sz:Nat) (enc:α->List Value) (hl:∀ x,(enc x).length=sz):Rep α where
 sz:=sz
 ok:=fun _ _ cs x=>cs=enc x
 len:=by rintro p w cs x rfl;exact hl x
 keep:=fun h _=>h
 weaken:=fun h _=>h
 bound:=fun h=>h
def sliceR {α:Type} (R:Rep α):Rep (List α) where
 sz:=1
 ok:=fun p w cs L=>∃ a cap,cs=[.slice a L.length cap]/\L.length<=cap/\L.length<=140737488355328/\RowAt R p w a L
 len:=by rintro p w cs x ⟨a,cap,rfl,_⟩;rfl
 keep:=by rintro p w w' cs x ⟨a,cap,h0,h1,h2,h3⟩ hk;exact ⟨a,cap,h0,h1,h2,h3.keep hk⟩
 weaken:=by rintro p q w cs x ⟨a,cap,h0,h1,h2,h3⟩ hk;exact ⟨a,cap,h0,h1,h2,h3.weaken hk⟩
 bound:=by rintro p w cs x ⟨a,cap,h0,h1,h2,h3⟩;exact ⟨a,cap,h0,h1,h2,h3.bound⟩
def SlV {α:Type} (R:Rep α) (p:Nat->Prop) (w:World) (v:Value) (L:List α):Prop :=
 ∃ a cap,v=.slice a L.length cap/\L.length<=cap/\L.length<=140737488355328/\RowAt R p w a L
theorem SlV.keep {α:Type} {R:Rep α} {p:Nat->Prop} {w w':World} {v:Value} {L:List α} (h:SlV R p w v L) (hk:∀ k,p k->k<w.heap.size->w'.heap[k]? = w.heap[k]?):SlV R p w' v L:=by
 obtain ⟨a,cap,h0,h1,h2,h3⟩:=h
 exact ⟨a,cap,h0,h1,h2,h3.keep hk⟩
theorem SlV.weaken {α:Type} {R:Rep α} {p q:Nat->Prop} {w:World} {v:Value} {L:List α} (h:SlV R p w v L) (hk:∀ k,p k->q k):SlV R q w v L:=by
 obtain ⟨a,cap,h0,h1,h2,h3⟩:=h
 exact ⟨a,cap,h0,h1,h2,h3.weaken hk⟩
theorem SlV.bound {α:Type} {R:Rep α} {p:Nat->Prop} {w:World} {v:Value} {L:List α} (h:SlV R p w v L):SlV R (fun k=>p k/\k<w.heap.size) w v L:=by
 obtain ⟨a,cap,h0,h1,h2,h3⟩:=h
 exact ⟨a,cap,h0,h1,h2,h3.bound⟩
theorem SlV.below {α:Type} {R:Rep α} {p:Nat->Prop} {w w':World} {v:Value} {L:List α} (h:SlV R p w v L) (hb:Below w.heap.size w w'):SlV R p w' v L :=
 h.keep fun k _ hk=>hb.block k hk
theorem RowAt.int {p:Nat->Prop} {w:World} {b off:Nat} {L:List Int} (h:RowAt intR p w (some ⟨b,off,none⟩) L) (t:Nat) (ht:t<L.length):w.cell? ⟨b,off+t,none⟩=some (.int .i64 L[t]):=by
 obtain ⟨cs,h1,rfl⟩:=h.get t ht
 simpa [intR] using h1 0 (by simp [intR])
theorem RowAt.str {p:Nat->Prop} {w:World} {b off:Nat} {L:List ByteArray} (h:RowAt strR p w (some ⟨b,off,none⟩) L) (t:Nat) (ht:t<L.length):w.cell? ⟨b,off+t,none⟩=some (.string L[t]):=by
 obtain ⟨cs,h1,rfl⟩:=h.get t ht
 simpa [strR] using h1 0 (by simp [strR])
theorem RowAt.of_owns {α:Type} {R:Rep α} {w:World} {base:Nat} {e:TypeId} {v:Value} {xs:List Value} {L:List α} {p:Nat->Prop} (h:w.ownsRow base e R.sz v L.length xs) (hp:∀ k,base<=k->p k)
 (each:∀ t (ht:t<L.length),R.ok p w ((xs.drop (t * R.sz)).take R.sz) L[t]):∃ a cap,v=.slice a L.length cap/\L.length<=cap/\RowAt R p w a L/\(∀ g,v.ownBlock=some g->base<=g):=by
 obtain ⟨hlen,⟨rfl,h0⟩|⟨g,cap,cur,rfl,hb,hg,hn,_,hsz,htk⟩⟩:=h
 · have:L=[]:=List.eq_nil_of_length_eq_zero h0
   subst this
   exact ⟨none,0,rfl,Nat.le_refl _,RowAt.nil,fun g hg=>by simp [Value.ownBlock] at hg⟩
 · refine ⟨some ⟨g,0,none⟩,cap,rfl,hn,Or.inr ⟨g,0,rfl,hp g hb,Live.of_block hg,fun t ht=>⟨_,fun j hj=>?_,each t ht⟩⟩,fun k hk=>by simp [Value.ownBlock] at hk;omega⟩
   have hlt:t * R.sz+j<L.length * R.sz:=by
    have:(t+1) * R.sz<=L.length * R.sz:=Nat.mul_le_mul_right _ ht
    have h2:(t+1) * R.sz=t * R.sz+R.sz:=by rw [Nat.add_mul,Nat.one_mul]
    omega
   have e1:w.cell? ⟨g,0+t * R.sz+j,none⟩=cur[t * R.sz+j]? := by simp [World.cell?,hg]
   rw [e1,List.getElem?_take_of_lt hj,List.getElem?_drop,<- htk,List.getElem?_take_of_lt hlt,Array.getElem?_toList]
theorem RowAt.of_owns_flat {α:Type} {w:World} {base:Nat} {e:TypeId} {v:Value} {L:List α} {p:Nat->Prop} {sz:Nat} {enc:α->List Value} {hl:∀ x,(enc x).length=sz} (h:w.ownsRow base e sz v L.length (L.flatMap enc)) (hp:∀ k,base<=k->p k) :
 ∃ a cap,v=.slice a L.length cap/\L.length<=cap/\RowAt (flatR sz enc hl) p w a L/\(∀ g,v.ownBlock=some g->base<=g):=by
 refine RowAt.of_owns (R:=flatR sz enc hl) h hp fun t ht=>?_
 show List.take sz (List.drop (t * sz) (L.flatMap enc))=enc L[t]
 have key:∀ (M:List α) (t:Nat) (ht:t<M.length),List.take sz (List.drop (t * sz) (M.flatMap enc))=enc M[t]:=by
  intro M
  induction M with
  | nil=>intro t ht;cases ht
  | cons x M ih =>
   intro t ht
   rw [List.flatMap_cons]
   cases t with
   | zero =>
    simp only [Nat.zero_mul,List.drop_zero,List.getElem_cons_zero]
    rw [List.take_append_of_le_length (by rw [hl];exact Nat.le_refl _),List.take_of_length_le (by rw [hl];exact Nat.le_refl _)]
   | succ t =>
    have e2:(t+1) * sz=(enc x).length+t * sz:=by rw [Nat.add_mul,Nat.one_mul,hl];omega
    have e3:List.drop ((enc x).length+t * sz) (enc x ++ M.flatMap enc)=List.drop (t * sz) (M.flatMap enc):=by simp [List.drop_append]
    rw [e2,e3]
    simpa using ih t (by simpa using ht)
 exact key L t ht
theorem gT {α:Type} {l:List α} {i:Nat}:l.toArray[i]? = l[i]? := List.getElem?_toArray
theorem gZ {α:Type} {a:α} {l:List α}:(a :: l)[0]? = some a:=List.getElem?_cons_zero
theorem gS {α:Type} {a:α} {l:List α} {i:Nat}:(a :: l)[i+1]? = l[i]? := List.getElem?_cons_succ
theorem b0R {B:Nat} {w:World}:Go.RowKit.Below B w w:=Go.RowKit.Below.refl _ _
theorem cy {w w':World} {k:Nat} {o:Obj} (b:Go.RowKit.Below w.heap.size w w') (h:Go.RowKit.Hid (w.heap[k]? = some o)):Go.RowKit.Hid (w'.heap[k]? = some o):=(b.block _ (Array.getElem?_eq_some_iff.1 h).1).trans h
theorem jL {a b c:Nat} (h:a<b) (k:b<=c):a<c:=Nat.lt_of_lt_of_le h k
theorem jR (a:Nat):a<=a:=Nat.le_refl a
theorem jI {α:Type} {a b:α} (h:some a=some b):a=b:=Option.some.inj h
theorem jC {w:World} {b:Nat} {cs:Array Value} {T:TypeId} {fz:Nat × Nat} (h:w.heap[b]? = some (.cells cs T fz)) (j:Nat):w.cell? ⟨b,j,none⟩=cs[j]? := by simp [World.cell?,h]
theorem jB {w:World} {k:Nat} {o:Obj} (h:w.heap[k]? = some o):k<w.heap.size:=(Array.getElem?_eq_some_iff.1 h).1
end
section
open Go.RowKit
def allocs (w:World) (os:List Obj):World:=os.foldl World.alloc w
theorem allocs_size:∀ (os:List Obj) (w:World),(allocs w os).heap.size=w.heap.size+os.length
 | [],_=>rfl
 | o :: r,w=>(allocs_size r (w.alloc o)).trans (by simp;omega)
theorem allocs_below (B:Nat):∀ (os:List Obj) (a w:World),Below B a w->B<=w.heap.size->Below B a (allocs w os)
 | [],_,_,h,_=>h
 | o :: r,a,w,h,hs=>allocs_below B r a (w.alloc o) (h.alloc hs o) (by simp;omega)
theorem allocs_at:∀ (os:List Obj) (w:World) (k:Nat),k<os.length->(allocs w os).heap[w.heap.size+k]? = os[k]?
 | o :: r,w,0,_=>by
  have hb:=allocs_below (w.alloc o).heap.size r (w.alloc o) (w.alloc o) (Below.refl _ _) (Nat.le_refl _)
  exact (hb.block w.heap.size (by simp)).trans (heap_alloc_new w o)
 | o :: r,w,k+1,hk=>by
  have h:=allocs_at r (w.alloc o) k (by simpa using hk)
  rw [World.size_alloc] at h
  rw [show w.heap.size+(k+1)=w.heap.size+1+k by omega]
  exact h
theorem allocs_get {w W:World} {os:List Obj} (h:allocs w os=W) (k:Nat) {o:Obj} (ho:os[k]? = some o):W.heap[w.heap.size+k]? = some o:=by
 rw [<- h,allocs_at os w k (List.getElem?_eq_some_iff.1 ho).1,ho]
theorem allocs_self {w W:World} {os:List Obj} (h:allocs w os=W):Below w.heap.size w W:=h ▸ allocs_below _ os w w (Below.refl _ _) (Nat.le_refl _)
end
section
open Go.RowKit
theorem owns_shape' {w:World} {B:Nat} {e:TypeId} {sz:Nat} {v:Value} {n:Nat} {xs:List Value} (h:w.ownsRow B e sz v n xs):∃ a c,v=.slice a n c/\(a=none->n=0):=by
 rcases h.2 with ⟨rfl,h0⟩|⟨g,cap,cur,rfl,_⟩
 · subst h0
   exact ⟨none,0,rfl,(fun _=>rfl)⟩
 · exact ⟨some ⟨g,0,none⟩,cap,rfl,(fun e=>by cases e)⟩
theorem sl_owned {α:Type} {w:World} {B:Nat} {e:TypeId} {sz:Nat} {v:Value} {enc:α->List Value} {hl:∀ x,(enc x).length=sz} {L:List α} (h:w.ownsRow B e sz v L.length (L.flatMap enc)) (hL:L.length<=140737488355328):SlV (flatR sz enc hl) (fun k=>B<=k) w v L:=by
 obtain ⟨a,c,hv,h3,h4,_⟩:=RowAt.of_owns_flat (enc:=enc) (sz:=sz) (hl:=hl) (p:=fun k=>B<=k) h (fun _ h=>h)
 exact ⟨a,c,hv,h3,hL,h4⟩
def strEnc (s:ByteArray):List Value:=[.string s]
def strF:Rep ByteArray:=flatR 1 strEnc fun _=>rfl
theorem str_cells (L:List ByteArray):∀ u ∈ L.flatMap strEnc,u.oneCell'=true:=by
 intro u hu
 obtain ⟨x,_,hx⟩:=List.mem_flatMap.1 hu
 simp [strEnc] at hx
 subst hx
 rfl
end
section
open Go.RowKit
theorem and_mask (x:Int) (m:Nat) (hm:m<=62):bits .and .i64 x ((2 ^ m - 1:Nat):Int)=x % ((2 ^ m:Nat):Int):=by
 have hp:2 ^ m<=2 ^ 62:=Nat.pow_le_pow_right (by omega) hm
 have hp0:0<2 ^ m:=Nat.pos_of_ne_zero (by simp)
 have hd:(18446744073709551616:Int)=((2 ^ m:Nat):Int) * ((2 ^ (64 - m):Nat):Int):=by
  rw [<- Int.natCast_mul,<- Nat.pow_add]
  have:m+(64 - m)=64:=by omega
  rw [this]
  rfl
 have e:(BitVec.ofInt 64 x &&& BitVec.ofInt 64 ((2 ^ m - 1:Nat):Int)).toNat=((x % 18446744073709551616).toNat) % 2 ^ m:=by
  rw [BitVec.toNat_and,BitVec.toNat_ofInt,BitVec.toNat_ofInt]
  have h1:(((2 ^ m - 1:Nat):Int) % ((2 ^ 64:Nat):Int)).toNat=2 ^ m - 1:=by
   have:((2 ^ m - 1:Nat):Int) % ((2 ^ 64:Nat):Int)=((2 ^ m - 1:Nat):Int):=Int.emod_eq_of_lt (by omega) (by omega)
   rw [this]
   omega
  rw [h1,Nat.and_two_pow_sub_one_eq_mod]
  rfl
 show IntKind.i64.wrap ((BitVec.ofInt 64 x &&& BitVec.ofInt 64 ((2 ^ m - 1:Nat):Int)).toNat:Int)=_
 rw [e,IntKind.wrap_i64]
 have h0:=Int.emod_nonneg x (show (18446744073709551616:Int) ≠ 0 by omega)
 have h2:((((x % 18446744073709551616).toNat % 2 ^ m:Nat)):Int)=x % ((2 ^ m:Nat):Int):=by
  rw [Int.natCast_emod,Int.toNat_of_nonneg h0,hd,Int.emod_emod_of_dvd _ ⟨_,rfl⟩]
 rw [h2]
 have h3:=Int.emod_nonneg x (show ((2 ^ m:Nat):Int) ≠ 0 by omega)
 have h4:=Int.emod_lt_of_pos x (show (0:Int)<((2 ^ m:Nat):Int) by omega)
 generalize x % ((2 ^ m:Nat):Int)=y at *
 omega
theorem mask2 (x:Int):bits .and .i64 x 3=x % 4:=and_mask x 2 (by omega)
theorem and_bit (x:Int) (p q:Nat) (hp:p<=2 ^ 61) (h:∀ n:Nat,n &&& p=if n / p % 2=1 then p else 0):bits .and .i64 x (p:Int)=if (x % 18446744073709551616).toNat / p % 2=1 then (p:Int) else 0:=by
 have e:(BitVec.ofInt 64 x &&& BitVec.ofInt 64 (p:Int)).toNat=((x % 18446744073709551616).toNat) &&& p:=by
  rw [BitVec.toNat_and,BitVec.toNat_ofInt,BitVec.toNat_ofInt]
  have h1:((p:Int) % ((2 ^ 64:Nat):Int)).toNat=p:=by
   have:(p:Int) % ((2 ^ 64:Nat):Int)=(p:Int):=Int.emod_eq_of_lt (by omega) (by omega)
   rw [this]
   omega
  rw [h1]
  rfl
 show IntKind.i64.wrap ((BitVec.ofInt 64 x &&& BitVec.ofInt 64 (p:Int)).toNat:Int)=_
 rw [e,IntKind.wrap_i64,h]
 split
 · omega
 · rfl
theorem nat4 (n:Nat):n &&& 4=if n / 4 % 2=1 then 4 else 0:=by
 have h:n &&& 4=(n % 8) &&& 4:=by
  rw [show n % 8=n &&& 7 from (Nat.and_two_pow_sub_one_eq_mod n 3).symm,Nat.and_assoc]
  rfl
 have k:∀ r,r<8->r &&& 4=if r / 4 % 2=1 then 4 else 0:=by decide
 rw [h,k _ (Nat.mod_lt _ (by decide))]
 congr 1
 exact propext ⟨fun _=>by omega,fun _=>by omega⟩
theorem nat8 (n:Nat):n &&& 8=if n / 8 % 2=1 then 8 else 0:=by
 have h:n &&& 8=(n % 16) &&& 8:=by
  rw [show n % 16=n &&& 15 from (Nat.and_two_pow_sub_one_eq_mod n 4).symm,Nat.and_assoc]
  rfl
 have k:∀ r,r<16->r &&& 8=if r / 8 % 2=1 then 8 else 0:=by decide
 rw [h,k _ (Nat.mod_lt _ (by decide))]
 congr 1
 exact propext ⟨fun _=>by omega,fun _=>by omega⟩
theorem bit2 (x:Int):bits .and .i64 x 4=if x / 4 % 2=0 then 0 else 4:=by
 have h:=and_bit x 4 0 (by decide) nat4
 rw [show ((4:Nat):Int)=4 from rfl] at h
 rw [h]
 by_cases c:x / 4 % 2=0
 · rw [if_pos c,if_neg (by omega)]
 · rw [if_neg c,if_pos (by omega)]
theorem bit3 (x:Int):bits .and .i64 x 8=if x / 8 % 2=0 then 0 else 8:=by
 have h:=and_bit x 8 0 (by decide) nat8
 rw [show ((8:Nat):Int)=8 from rfl] at h
 rw [h]
 by_cases c:x / 8 % 2=0
 · rw [if_pos c,if_neg (by omega)]
 · rw [if_neg c,if_pos (by omega)]
end
end Go.Proofs.YtjcpccadmcglgaaGreatDoor
