/- Values. -/
import Derived.Test.YtjcpccadmcglgaaGreatDoorZK2
import Derived.Test.YtjcpccadmcglgaaGreatDoorProg
set_option linter.unusedVariables false
set_option linter.unusedSimpArgs false
set_option maxRecDepth 100000
set_option maxHeartbeats 64000000
namespace Go.Proofs.YtjcpccadmcglgaaGreatDoor
section
open Go.RowKit
structure Val where
 kind:Int
 n:Int
 s:ByteArray
 deriving DecidableEq
def Val.enc (v:Val):Value:=.agg #[.int .i64 v.kind,.int .i64 v.n,.string v.s]
def knownB (k:Int):Bool:=decide (0<=k) && decide (k<=2)
def rightB (v:Val):Bool:=knownB v.kind && (decide (v.kind ≠ 2) || decide (v.s.size<=40))
end
section
open Go
def placeV (k:Int):Int:=if k<0 \/ 2<k then 3 else k
def ordI (l m:Bool):Int:=if l then -1 else if m then 1 else 0
def cmpL:List UInt8->List UInt8->Int
 | [],[]=>0
 | [],_ :: _=>-1
 | _ :: _,[]=>1
 | a :: x,b :: y=>if a=b then cmpL x y else if a.toNat<b.toNat then -1 else 1
theorem cmpL_drop (A B:List UInt8) (k:Nat) (hA:k<A.length) (hB:k<B.length) :
 cmpL (A.drop k) (B.drop k)=if A[k]=B[k] then cmpL (A.drop (k+1)) (B.drop (k+1)) else if A[k].toNat<B[k].toNat then -1 else 1:=by
 rw [List.drop_eq_getElem_cons hA,List.drop_eq_getElem_cons hB,cmpL]
theorem cmpL_end (A B:List UInt8) (k:Nat) (h:k=A.length \/ k=B.length) (hA:k<=A.length) (hB:k<=B.length) :
 cmpL (A.drop k) (B.drop k)=ordI (decide (A.length<B.length)) (decide (B.length<A.length)):=by
 rcases (show k=A.length/\A.length=B.length \/ k=A.length/\A.length<B.length \/ k=B.length/\B.length<A.length by omega) with ⟨h1,h2⟩|⟨h1,h2⟩|⟨h1,h2⟩
 · rw [List.drop_of_length_le (by omega),List.drop_of_length_le (by omega)]
   simp [cmpL,ordI,h2]
 · rw [List.drop_of_length_le (by omega),List.drop_eq_getElem_cons (by omega)]
   simp [cmpL,ordI,h2]
 · rw [show B.drop k=[] from List.drop_eq_nil_of_le (by omega),List.drop_eq_getElem_cons (by omega)]
   have:¬ A.length<B.length:=by omega
   simp [cmpL,ordI,h2,this]
def cmpV (a b:Val):Int :=
 if placeV a.kind ≠ placeV b.kind then ordI (decide (placeV a.kind<placeV b.kind)) (decide (placeV b.kind<placeV a.kind))
 else if placeV a.kind=1 then ordI (decide (a.n<b.n)) (decide (b.n<a.n))
 else if placeV a.kind=2 then cmpL a.s.data.toList b.s.data.toList else 0
def opOk (op c:Int):Bool :=
 if op=1 then c == 0 else if op=2 then !(c == 0) else if op=3 then decide (c<0) else if op=4 then decide (c<=0) else if op=5 then decide (0<c) else if op=6 then decide (0<=c) else false
def fitsV (a:Val) (op:Int) (b:Val):Bool :=
 if placeV a.kind=0 \/ placeV b.kind=0 \/ placeV a.kind=3 \/ placeV b.kind=3 then false
 else if placeV a.kind ≠ placeV b.kind then op == 2
 else opOk op (cmpV a b)
end
section
open Go
structure Cond where
 col:ByteArray
 op:Int
 val:Val
 deriving DecidableEq
structure Ix where
 name:ByteArray
 cols:List Int
 root:Int
structure Tab where
 id:Int
 name:ByteArray
 cols:List (ByteArray × Int)
 idx:List Ix
structure SetV where
 col:ByteArray
 col2:ByteArray
 val:Val
 deriving DecidableEq
structure Stmt where
 kind:Int
 table:ByteArray
 name:ByteArray
 cols:List (ByteArray × Int)
 names:List ByteArray
 row:List Val
 sets:List SetV
 wher:List Cond
 join:ByteArray
 left:ByteArray
 right:ByteArray
 agg:Int
 order:List ByteArray
 mode:Int
 n:Int
 deriving DecidableEq
def noStr:ByteArray:=⟨#[]⟩
theorem toList_data (s:ByteArray):s.toList=s.data.toList:=ByteArray.toList_eq s
def val0:Val:=⟨0,0,noStr⟩
instance:Inhabited Val:=⟨val0⟩
instance:Inhabited Cond:=⟨⟨noStr,0,val0⟩⟩
instance:Inhabited Ix:=⟨⟨noStr,[],0⟩⟩
instance:Inhabited Tab:=⟨⟨0,noStr,[],[]⟩⟩
def stmt0:Stmt:=⟨0,noStr,noStr,[],[],[],[],[],noStr,noStr,noStr,0,[],0,0⟩
def idxOf {α:Type} (p:α->Bool) (L:List α):Int:=match L.findIdx? p with|some i=>(i:Int)|none=>-1
theorem idxOf_hit {α:Type} {p:α->Bool} {L:List α} {k:Nat} (hk:k<L.length) (h:p L[k]=true) (hb:∀ t (ht:t<k),p (L[t]'(by omega))=false):idxOf p L=k:=by
 have:L.findIdx? p=some k:=by
  rw [List.findIdx?_eq_some_iff_getElem]
  exact ⟨hk,h,fun j hj=>by rw [hb j hj];simp⟩
 simp [idxOf,this]
theorem idxOf_miss {α:Type} {p:α->Bool} {L:List α} (hb:∀ t (ht:t<L.length),p L[t]=false):idxOf p L=-1:=by
 have:L.findIdx? p=none:=by
  rw [List.findIdx?_eq_none_iff]
  intro x hx
  obtain ⟨i,hi,rfl⟩:=List.getElem_of_mem hx
  exact hb i hi
 simp [idxOf,this]
theorem idxOf_bd {α:Type} (p:α->Bool) (L:List α):-1<=idxOf p L/\idxOf p L<L.length:=by
 unfold idxOf
 cases h:L.findIdx? p with
 | none=>simp;omega
 | some i =>
  rw [List.findIdx?_eq_some_iff_getElem] at h
  obtain ⟨hi,_⟩:=h
  simp;omega
theorem idxOf_spec {α:Type} (p:α->Bool) (L:List α) (h:0<=idxOf p L):∃ (i:Nat) (hi:i<L.length),idxOf p L=i/\p L[i]=true/\∀ t (ht:t<i),p (L[t]'(by omega))=false:=by
 unfold idxOf at *
 cases h2:L.findIdx? p with
 | none=>rw [h2] at h;simp at h
 | some i =>
  rw [List.findIdx?_eq_some_iff_getElem] at h2
  obtain ⟨hi,h3,h4⟩:=h2
  exact ⟨i,hi,rfl,h3,fun t ht=>by simpa using h4 t ht⟩
theorem idxOf_neg {α:Type} (p:α->Bool) (L:List α) (h:idxOf p L<0):∀ x ∈ L,p x=false:=by
 unfold idxOf at h
 cases h2:L.findIdx? p with
 | none=>rw [List.findIdx?_eq_none_iff] at h2;exact fun x hx=>h2 x hx
 | some i=>rw [h2] at h;simp at h;omega
def sEq (a b:ByteArray):Bool:=a.toList == b.toList
theorem sEq_iff (a b:ByteArray):sEq a b=true ↔ a=b:=by
 unfold sEq
 rw [beq_iff_eq,toList_data,toList_data]
 constructor
 · intro h
   obtain ⟨⟨a⟩⟩:=a
   obtain ⟨⟨b⟩⟩:=b
   simp at h
   rw [h]
 · rintro rfl;rfl
def colOf (T:Tab) (name:ByteArray):Int:=idxOf (fun c=>sEq c.1 name) T.cols
def cmpR:List Val->List Val->Int
 | [],[]=>0
 | [],_ :: _=>-1
 | _ :: _,[]=>1
 | a :: x,b :: y=>if cmpV a b=0 then cmpR x y else cmpV a b
structure StV where
 tabs:List Tab
 rows:List (List (List Val))
structure AnsV where
 err:Int
 rows:List (List Val)
 n:Int
def ans0:AnsV:=⟨0,[],0⟩
def ansE (e:Int):AnsV:=⟨e,[],0⟩
def findV (s:StV) (name:ByteArray):Int:=idxOf (fun t=>sEq t.name name) s.tabs
def fitsC (T:Tab) (r:List Val) (c:Cond):Bool:=decide (0<=colOf T c.col) && decide (colOf T c.col<r.length) && fitsV (r.getD (colOf T c.col).toNat default) c.op c.val
def fitsW (T:Tab) (W:List Cond) (r:List Val):Bool:=W.all (fitsC T r)
def checkV (T:Tab) (r:List Val):Int :=
 if r.length ≠ T.cols.length then 2 else if (List.zip r T.cols).all fun x=>rightB x.1 && (decide (x.1.kind=0) || decide (x.1.kind=x.2.2)) then 0 else 52
end
open Go.Lib (hid)
section
open Go.RowKit
theorem size_any (n:Int) (w:World) :
 Calls Tryz.prog 56 #[.int .i64 n] w fun e w'=>e=.returned (.int .i64 (max 0 (min n 8)))/\w=w':=by
 go_enter Tryz.func56,Tryz.ntmps56
 go_wp2
 all_goals go_ret
 all_goals refine ⟨ret_int ?_,rfl⟩
 all_goals first|omega|(simp;omega)|simp
theorem put_any (n m:Int) (w:World) :
 Calls Tryz.prog 23 #[.int .i64 n,.int .i64 m] w fun e w'=>e=.returned (.string ⟨(be (clamp8 m) n).toArray⟩)/\Below w.heap.size w w':=by
 have hm:=hid (show clamp8 m=(max 0 (min m 8)).toNat from rfl)
 have C:=hid (conv_tail (P:=Tryz.prog) w 78 5 9 109 Tryz.underlying78 Tryz.underlying5 Tryz.underlying9 [IntKind.u64.wrap n / 72057594037927936 % 256,IntKind.u64.wrap n / 281474976710656 % 256,IntKind.u64.wrap n / 1099511627776 % 256,IntKind.u64.wrap n / 4294967296 % 256,IntKind.u64.wrap n / 16777216 % 256,IntKind.u64.wrap n / 65536 % 256,IntKind.u64.wrap n / 256 % 256,IntKind.u64.wrap n % 256])
 go_enter Tryz.func23,Tryz.ntmps23
 go_wp2
 refine wp_loop_rounds 9 ?_
 repeat any_goals (rw [rounds_succ];go_wp2_with fail)
 refine (size_any _ _).mono ?_
 rintro e w' ⟨rfl,rfl⟩
 have h1:0<=max 0 (min m 8):=by omega
 have h2:max 0 (min m 8)<=8:=by omega
 generalize max 0 (min m 8)=k at *
 have h3:k=0 \/ k=1 \/ k=2 \/ k=3 \/ k=4 \/ k=5 \/ k=6 \/ k=7 \/ k=8:=by omega
 rcases h3 with rfl|rfl|rfl|rfl|rfl|rfl|rfl|rfl|rfl
 · have c:=C.out 0 0 0 (by simp)
   simp only [List.map_cons,List.map_nil,List.take] at c
   go_wp2_with fail
   go_ret
   refine ⟨?_,by go_grown⟩
   rw [hm.out]
   rfl
 · have c:=C.out 7 1 1 (by simp)
   simp only [List.map_cons,List.map_nil,List.drop,List.take] at c
   go_wp2_with fail
   go_ret
   refine ⟨?_,by go_grown⟩
   rw [hm.out]
   simp only [put_b0]
   rfl
 · have c:=C.out 6 2 2 (by simp)
   simp only [List.map_cons,List.map_nil,List.drop,List.take] at c
   go_wp2_with fail
   go_ret
   refine ⟨?_,by go_grown⟩
   rw [hm.out]
   simp only [put_b0,put_b1]
   rfl
 · have c:=C.out 5 3 3 (by simp)
   simp only [List.map_cons,List.map_nil,List.drop,List.take] at c
   go_wp2_with fail
   go_ret
   refine ⟨?_,by go_grown⟩
   rw [hm.out]
   simp only [put_b0,put_b1,put_b2]
   rfl
 · have c:=C.out 4 4 4 (by simp)
   simp only [List.map_cons,List.map_nil,List.drop,List.take] at c
   go_wp2_with fail
   go_ret
   refine ⟨?_,by go_grown⟩
   rw [hm.out]
   simp only [put_b0,put_b1,put_b2,put_b3]
   rfl
 · have c:=C.out 3 5 5 (by simp)
   simp only [List.map_cons,List.map_nil,List.drop,List.take] at c
   go_wp2_with fail
   go_ret
   refine ⟨?_,by go_grown⟩
   rw [hm.out]
   simp only [put_b0,put_b1,put_b2,put_b3,put_b4]
   rfl
 · have c:=C.out 2 6 6 (by simp)
   simp only [List.map_cons,List.map_nil,List.drop,List.take] at c
   go_wp2_with fail
   go_ret
   refine ⟨?_,by go_grown⟩
   rw [hm.out]
   simp only [put_b0,put_b1,put_b2,put_b3,put_b4,put_b5]
   rfl
 · have c:=C.out 1 7 7 (by simp)
   simp only [List.map_cons,List.map_nil,List.drop,List.take] at c
   go_wp2_with fail
   go_ret
   refine ⟨?_,by go_grown⟩
   rw [hm.out]
   simp only [put_b0,put_b1,put_b2,put_b3,put_b4,put_b5,put_b6]
   rfl
 · have c:=C.out 0 8 8 (by simp)
   simp only [List.map_cons,List.map_nil,List.drop,List.take] at c
   go_wp2_with fail
   go_ret
   refine ⟨?_,by go_grown⟩
   rw [hm.out]
   simp only [put_b0,put_b1,put_b2,put_b3,put_b4,put_b5,put_b6,put_b7]
   rfl
def cutTo (s:ByteArray):List UInt8:=s.data.toList.take 65535
def textOf (s:ByteArray):List UInt8:=be 2 (cutTo s).length ++ cutTo s
theorem toList_size (s:ByteArray):s.data.toList.length=s.size:=by rw [Array.length_toList];rfl
theorem cutTo_short {s:ByteArray} (h:s.size<=65535):cutTo s=s.data.toList:=List.take_of_length_le (by rw [toList_size];exact h)
theorem cutTo_long {s:ByteArray} (h:65535<=s.size):(cutTo s).length=65535:=by unfold cutTo;rw [List.length_take,toList_size];omega
theorem extract_list (s:ByteArray) (a b:Nat):(s.extract a b).data.toList=(s.data.toList.drop a).take (b - a):=by
 rw [ByteArray.data_extract,Array.toList_extract]
theorem otext_any (s:ByteArray) (w:World) (hs:s.size<=maxLen) :
 Calls Tryz.prog 25 #[.string s] w fun e w'=>e=.returned (.string ⟨(textOf s).toArray⟩)/\Below w.heap.size w w':=by
 unfold maxLen at hs
 go_enter Tryz.func25,Tryz.ntmps25
 by_cases h:s.size<=65535
 · have hl:=be_len 2 (s.size:Int)
   have c2:clamp8 2=2:=rfl
   go_wp2_with fail
   refine (put_any _ _ _).mono ?_
   rintro e w' ⟨rfl,hb⟩
   go_wp2_with fail
   go_ret
   refine ⟨ret_str ?_,hb⟩
   show _=textOf s
   unfold textOf
   rw [cutTo_short h,toList_size]
   simp
 · have hl:=be_len 2 65535
   have c2:clamp8 2=2:=rfl
   have hmin:min 65535 s.size=65535:=by omega
   go_wp2_with fail
   refine (put_any _ _ _).mono ?_
   rintro e w' ⟨rfl,hb⟩
   go_wp2_with fail
   go_ret
   refine ⟨ret_str ?_,hb⟩
   show _=textOf s
   unfold textOf
   rw [cutTo_long (by omega)]
   unfold cutTo
   simp
end
end Go.Proofs.YtjcpccadmcglgaaGreatDoor
