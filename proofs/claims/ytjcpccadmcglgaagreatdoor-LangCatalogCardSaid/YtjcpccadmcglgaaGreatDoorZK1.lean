/- the library's exchange of one byte of a string, in plain words. -/
import Derived.Lib.CountLaws
import Derived.Lib.Replace
import Derived.Lib.SplitLaws
set_option linter.unusedVariables false
set_option linter.unusedSimpArgs false
set_option maxRecDepth 100000
set_option maxHeartbeats 64000000
namespace Go.Proofs.YtjcpccadmcglgaaGreatDoor
section
open Go
theorem index_one_cons (c x:UInt8) (s:List UInt8):Lib.index (c :: s) [x]=if c=x then 0 else if Lib.index s [x]=-1 then -1 else Lib.index s [x]+1:=by
 rw [Lib.index]
 by_cases h:c=x
 · subst h;simp [List.isPrefixOf]
 · have:(x == c)=false:=by simp;exact fun e=>h e.symm
   simp [List.isPrefixOf,this,h]
theorem index_one_nil (x:UInt8):Lib.index [] [x]=-1:=rfl
def swapB (x:UInt8) (new:List UInt8):List UInt8->List UInt8
 | []=>[]
 | c :: s=>(if c=x then new else [c]) ++ swapB x new s
theorem swap_miss (x:UInt8) (new:List UInt8):∀ s:List UInt8,Lib.index s [x]=-1->swapB x new s=s
 | [],_=>rfl
 | c :: s,h=>by
  rw [index_one_cons] at h
  by_cases hc:c=x
  · rw [if_pos hc] at h;cases h
  · rw [if_neg hc] at h
    have hge:=Lib.index_ge s [x]
    split at h
    · rename_i h2
      rw [swapB,if_neg hc,swap_miss x new s h2];rfl
    · omega
theorem swap_hit (x:UInt8) (new:List UInt8):∀ (s:List UInt8) (i:Nat),Lib.index s [x]=i->swapB x new s=s.take i ++ new ++ swapB x new (s.drop (i+1))
 | [],i,h=>by rw [index_one_nil] at h;omega
 | c :: s,i,h=>by
  rw [index_one_cons] at h
  by_cases hc:c=x
  · rw [if_pos hc] at h
    have:i=0:=by omega
    subst this
    rw [swapB,if_pos hc];simp
  · rw [if_neg hc] at h
    have hge:=Lib.index_ge s [x]
    split at h
    · omega
    · obtain ⟨j,rfl⟩:∃ j,i=j+1:=⟨i - 1,by omega⟩
      rw [swapB,if_neg hc,swap_hit x new s j (by omega)]
      simp [List.append_assoc]
theorem replaceK_swap (x:UInt8) (new:List UInt8):∀ (k:Nat) (s:List UInt8),Lib.count s [x]<=k->Lib.replaceK [x] new k s=swapB x new s
 | 0,s,h=>by
  have hi:Lib.index s [x]=-1:=by
   have hge:=Lib.index_ge s [x]
   rcases (show Lib.index s [x]<0 \/ 0<=Lib.index s [x] by omega) with h1|h1
   · omega
   · obtain ⟨i,hi⟩:∃ i:Nat,Lib.index s [x]=i:=⟨(Lib.index s [x]).toNat,by omega⟩
     rw [Lib.count_hit (by simp) hi] at h
     omega
  rw [swap_miss x new s hi];rfl
 | k+1,s,h=>by
  have hge:=Lib.index_ge s [x]
  rcases (show Lib.index s [x]<0 \/ 0<=Lib.index s [x] by omega) with h1|h1
  · have hi:Lib.index s [x]=-1:=by omega
    rw [swap_miss x new s hi,Lib.replaceK,hi];rfl
  · obtain ⟨i,hi⟩:∃ i:Nat,Lib.index s [x]=i:=⟨(Lib.index s [x]).toNat,by omega⟩
    rw [Lib.count_hit (by simp) hi] at h
    rw [Lib.replaceK_hit _ _ _ _ _ hi,swap_hit x new s i hi,replaceK_swap x new k _ (by simpa using (show Lib.count (s.drop (i + [x].length)) [x]<=k by omega))]
    rfl
theorem replaceAll_swap (x:UInt8) (new s:List UInt8) (h:([x] == new)=false):Lib.replaceAll s [x] new=swapB x new s:=by
 unfold Lib.replaceAll Lib.replace
 rw [if_neg (by rw [h];exact Bool.false_ne_true)]
 exact replaceK_swap x new _ s (by simp [Lib.replaceNum])
end
end Go.Proofs.YtjcpccadmcglgaaGreatDoor
