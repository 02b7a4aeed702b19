/- Values: known, Right; the reference's Right. -/
import Derived.Test.YtgemihkcihigpaaGreatDoorProg
import Derived.Test.YtgemihkcihigpaaGreatDoorZD2
set_option linter.unusedVariables false
set_option linter.unusedSimpArgs false
set_option maxRecDepth 100000
set_option maxHeartbeats 64000000
namespace Go.Proofs.YtgemihkcihigpaaGreatDoor
section
open Go.RowKit
structure Val where
 kind:Int
 n:Int
 s:ByteArray
def Val.enc (v:Val):Value:=.agg #[.int .i64 v.kind,.int .i64 v.n,.string v.s]
def knownB (k:Int):Bool:=decide (0<=k) && decide (k<=2)
def rightB (v:Val):Bool:=knownB v.kind && (decide (v.kind ≠ 2) || decide (v.s.size<=40))
theorem known_any (k:Int) (w:World):Calls Tryz.prog 55 #[.int .i64 k] w fun e w'=>e=.returned (.bool (knownB k))/\w=w':=by
 go_enter Tryz.func55,Tryz.ntmps55
 by_cases h1:0<=k
 · by_cases h2:k<=2
   · go_wp2_with fail
     go_ret
     exact ⟨by simp [knownB,h1,h2],rfl⟩
   · go_wp2_with fail
     go_ret
     exact ⟨by simp [knownB,h1,h2],rfl⟩
 · go_wp2_with fail
   go_ret
   exact ⟨by simp [knownB];omega,rfl⟩
theorem right_any (v:Val) (w:World):Calls Tryz.prog 133 #[v.enc] w fun e w'=>e=.returned (.bool (rightB v))/\Below w.heap.size w w':=by
 obtain ⟨k,n,s⟩:=v
 show Calls _ _ #[.agg #[.int .i64 k,.int .i64 n,.string s]] _ _
 have hb:Below w.heap.size w (w.alloc (Obj.cells #[.int .i64 k,.int .i64 n,.string s] 55)):=(b0R).alloc (jR _) _
 go_enter Tryz.func133,Tryz.ntmps133
 go_wp2_with fail
 refine (known_any k _).mono ?_
 rintro e w1 ⟨rfl,rfl⟩
 cases hk:knownB k
 · go_wp2_with fail
   go_ret
   exact ⟨by simp [rightB,hk],hb⟩
 · by_cases h2:k=2
   · subst h2
     go_wp2_with fail
     go_ret
     exact ⟨by simp [rightB,hk];omega,hb⟩
   · have h3:(k == 2)=false:=by simp [h2]
     go_wp2_with fail
     go_ret
     exact ⟨by simp [rightB,hk,h2],hb⟩
end
section
open Go
def placeV (k:Int):Int:=if k<0 \/ 2<k then 3 else k
def ordI (l m:Bool):Int:=if l then -1 else if m then 1 else 0
def cmpL:List UInt8->List UInt8->Int
 | [],[]=>0
 | [],_ :: _=>-1
 | _ :: _,[]=>1
 | a :: x,b :: y=>if a=b then cmpL x y else if a.toNat<b.toNat then -1 else 1
def cmpV (a b:Val):Int :=
 if placeV a.kind ≠ placeV b.kind then ordI (decide (placeV a.kind<placeV b.kind)) (decide (placeV b.kind<placeV a.kind))
 else if placeV a.kind=1 then ordI (decide (a.n<b.n)) (decide (b.n<a.n))
 else if placeV a.kind=2 then cmpL a.s.data.toList b.s.data.toList else 0
def opOk (op c:Int):Bool :=
 if op=1 then c == 0 else if op=2 then !(c == 0) else if op=3 then decide (c<0) else if op=4 then decide (c<=0) else if op=5 then decide (0<c) else if op=6 then decide (0<=c) else false
def fitsV (a:Val) (op:Int) (b:Val):Bool :=
 if placeV a.kind=0 \/ placeV b.kind=0 \/ placeV a.kind=3 \/ placeV b.kind=3 then false
 else if placeV a.kind ≠ placeV b.kind then op == 2
 else opOk op (cmpV a b)
end
section
open Go
structure Cond where
 col:ByteArray
 op:Int
 val:Val
structure Ix where
 name:ByteArray
 cols:List Int
 root:Int
structure Tab where
 id:Int
 name:ByteArray
 cols:List (ByteArray × Int)
 idx:List Ix
structure SetV where
 col:ByteArray
 col2:ByteArray
 val:Val
structure Stmt where
 kind:Int
 table:ByteArray
 name:ByteArray
 cols:List (ByteArray × Int)
 names:List ByteArray
 row:List Val
 sets:List SetV
 wher:List Cond
 join:ByteArray
 left:ByteArray
 right:ByteArray
 agg:Int
 order:List ByteArray
 mode:Int
 n:Int
def noStr:ByteArray:=⟨#[]⟩
theorem toList_data (s:ByteArray):s.toList=s.data.toList:=ByteArray.toList_eq s
def val0:Val:=⟨0,0,noStr⟩
instance:Inhabited Val:=⟨val0⟩
instance:Inhabited Cond:=⟨⟨noStr,0,val0⟩⟩
instance:Inhabited Ix:=⟨⟨noStr,[],0⟩⟩
instance:Inhabited Tab:=⟨⟨0,noStr,[],[]⟩⟩
def stmt0:Stmt:=⟨0,noStr,noStr,[],[],[],[],[],noStr,noStr,noStr,0,[],0,0⟩
def idxOf {α:Type} (p:α->Bool) (L:List α):Int:=match L.findIdx? p with|some i=>(i:Int)|none=>-1
theorem idxOf_hit {α:Type} {p:α->Bool} {L:List α} {k:Nat} (hk:k<L.length) (h:p L[k]=true) (hb:∀ t (ht:t<k),p (L[t]'(by omega))=false):idxOf p L=k:=by
 have:L.findIdx? p=some k:=by
  rw [List.findIdx?_eq_some_iff_getElem]
  exact ⟨hk,h,fun j hj=>by rw [hb j hj];simp⟩
 simp [idxOf,this]
theorem idxOf_miss {α:Type} {p:α->Bool} {L:List α} (hb:∀ t (ht:t<L.length),p L[t]=false):idxOf p L=-1:=by
 have:L.findIdx? p=none:=by
  rw [List.findIdx?_eq_none_iff]
  intro x hx
  obtain ⟨i,hi,rfl⟩:=List.getElem_of_mem hx
  exact hb i hi
 simp [idxOf,this]
theorem idxOf_bd {α:Type} (p:α->Bool) (L:List α):-1<=idxOf p L/\idxOf p L<L.length:=by
 unfold idxOf
 cases h:L.findIdx? p with
 | none=>simp;omega
 | some i =>
  rw [List.findIdx?_eq_some_iff_getElem] at h
  obtain ⟨hi,_⟩:=h
  simp;omega
theorem idxOf_spec {α:Type} (p:α->Bool) (L:List α) (h:0<=idxOf p L):∃ (i:Nat) (hi:i<L.length),idxOf p L=i/\p L[i]=true/\∀ t (ht:t<i),p (L[t]'(by omega))=false:=by
 unfold idxOf at *
 cases h2:L.findIdx? p with
 | none=>rw [h2] at h;simp at h
 | some i =>
  rw [List.findIdx?_eq_some_iff_getElem] at h2
  obtain ⟨hi,h3,h4⟩:=h2
  exact ⟨i,hi,rfl,h3,fun t ht=>by simpa using h4 t ht⟩
theorem idxOf_neg {α:Type} (p:α->Bool) (L:List α) (h:idxOf p L<0):∀ x ∈ L,p x=false:=by
 unfold idxOf at h
 cases h2:L.findIdx? p with
 | none=>rw [List.findIdx?_eq_none_iff] at h2;exact fun x hx=>h2 x hx
 | some i=>rw [h2] at h;simp at h;omega
def sEq (a b:ByteArray):Bool:=a.toList == b.toList
theorem sEq_iff (a b:ByteArray):sEq a b=true ↔ a=b:=by
 unfold sEq
 rw [beq_iff_eq,toList_data,toList_data]
 constructor
 · intro h
   obtain ⟨⟨a⟩⟩:=a
   obtain ⟨⟨b⟩⟩:=b
   simp at h
   rw [h]
 · rintro rfl;rfl
def colOf (T:Tab) (name:ByteArray):Int:=idxOf (fun c=>sEq c.1 name) T.cols
def cmpR:List Val->List Val->Int
 | [],[]=>0
 | [],_ :: _=>-1
 | _ :: _,[]=>1
 | a :: x,b :: y=>if cmpV a b=0 then cmpR x y else cmpV a b
structure StV where
 tabs:List Tab
 rows:List (List (List Val))
structure AnsV where
 err:Int
 rows:List (List Val)
 n:Int
def ans0:AnsV:=⟨0,[],0⟩
def ansE (e:Int):AnsV:=⟨e,[],0⟩
def findV (s:StV) (name:ByteArray):Int:=idxOf (fun t=>sEq t.name name) s.tabs
def fitsC (T:Tab) (r:List Val) (c:Cond):Bool:=decide (0<=colOf T c.col) && decide (colOf T c.col<r.length) && fitsV (r.getD (colOf T c.col).toNat default) c.op c.val
def fitsW (T:Tab) (W:List Cond) (r:List Val):Bool:=W.all (fitsC T r)
def checkV (T:Tab) (r:List Val):Int :=
 if r.length ≠ T.cols.length then 2 else if (List.zip r T.cols).all fun x=>rightB x.1 && (decide (x.1.kind=0) || decide (x.1.kind=x.2.2)) then 0 else 52
end
end Go.Proofs.YtgemihkcihigpaaGreatDoor
