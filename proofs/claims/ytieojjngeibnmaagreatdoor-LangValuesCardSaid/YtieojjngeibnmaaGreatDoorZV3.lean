/- LangValues: plain facts about a row's canonical values and their text. -/
import Derived.Test.YtieojjngeibnmaaGreatDoorZV1
import Derived.Test.YtieojjngeibnmaaGreatDoorZD25
import Derived.Lib.ItoaLen
set_option linter.unusedVariables false
set_option linter.unusedSimpArgs false
set_option maxRecDepth 100000
set_option maxHeartbeats 64000000
namespace Go.Proofs.YtieojjngeibnmaaGreatDoor
section
def canV (v:Val):Val:=⟨v.kind % 65536 % 3,if v.kind % 65536 % 3=1 then v.n else 0,if v.kind % 65536 % 3=2 then v.s.extract 0 (min v.s.size 40) else noStr⟩
def commaL:List Val->List UInt8
 | []=>[]
 | v :: r=>44 :: ((textV v).data.toList ++ commaL r)
def joinV:List Val->List UInt8
 | []=>[]
 | v :: r=>(textV v).data.toList ++ commaL r
theorem comma_snoc (v:Val):∀ r,commaL (r ++ [v])=commaL r ++ 44 :: (textV v).data.toList
 | []=>by simp [commaL]
 | u :: r=>by simp [commaL,comma_snoc v r]
theorem join_snoc (v:Val) (r:List Val):joinV (r ++ [v])=joinV r ++ ((if r=[] then [] else [44]) ++ (textV v).data.toList):=by
 cases r with
 | nil=>simp [joinV,commaL]
 | cons u r=>simp [joinV,comma_snoc]
theorem tail_comma:∀ r,tailL r=commaL r ++ [41]
 | []=>rfl
 | v :: r=>by simp [tailL,commaL,tail_comma r]
theorem can_prints {v:Val} (h:-9223372036854775808<=v.n/\v.n<=9223372036854775807):PrintsV (canV v):=by
 refine ⟨show _ % _=_ \/ _ % _=_ \/ _ % _=_ by omega,?_,?_,?_⟩
 · show -9223372036854775808<=(if _ then v.n else 0)
   split <;> omega
 · show (if _ then v.n else 0)<=9223372036854775807
   split <;> omega
 · show (if _ then v.s.extract 0 (min v.s.size 40) else noStr).size<=40
   split
   · rw [ByteArray.size_extract];omega
   · exact Nat.zero_le _
theorem can_plain (v:Val):PlainV (canV v):=⟨fun h=>if_neg h,fun h=>if_neg h⟩
theorem text_small {v:Val} (h:PrintsV v):(textV v).data.toList.length<=82:=by
 obtain ⟨hk,h1,h2,h3⟩:=h
 unfold textV
 split
 · decide
 · split
   · exact Nat.le_trans (Lib.itoa_length_le _ h1 h2) (by decide)
   · split
     · have h4:=escQ_len v.s.data.toList
       have h5:v.s.data.toList.length=v.s.size:=by simp
       simp only [List.length_cons,List.length_append,List.length_nil]
       omega
     · exact Nat.zero_le _
theorem comma_small:∀ {r:List Val},(∀ v ∈ r,PrintsV v)->(commaL r).length<=83 * r.length
 | [],_=>jR _
 | v :: r,h=>by
  have h1:=text_small (h v List.mem_cons_self)
  have h2:=comma_small (r:=r) (fun u hu=>h u (List.mem_cons_of_mem _ hu))
  simp only [commaL,List.length_cons,List.length_append]
  omega
theorem join_small {r:List Val} (h:∀ v ∈ r,PrintsV v):(joinV r).length<=83 * r.length:=by
 cases r with
 | nil=>exact jR _
 | cons v r =>
  have h1:=text_small (h v List.mem_cons_self)
  have h2:=comma_small (r:=r) (fun u hu=>h u (List.mem_cons_of_mem _ hu))
  simp only [joinV,List.length_cons,List.length_append]
  omega
theorem cmpL_self:∀ l:List UInt8,cmpL l l=0
 | []=>rfl
 | c :: l=>by rw [cmpL,if_pos rfl,cmpL_self l]
theorem cmpV_self (v:Val):cmpV v v=0:=by
 unfold cmpV
 rw [if_neg (by simp)]
 split
 · simp [ordI]
 · split
   · exact cmpL_self _
   · rfl
theorem cmpR_self:∀ r:List Val,cmpR r r=0
 | []=>rfl
 | v :: r=>by rw [cmpR,if_pos (cmpV_self v),cmpR_self r]
theorem join_back {q:List Val} (h:∀ u ∈ q,PrintsV u/\PlainV u) (hn:q ≠ []) (hl:q.length<=6) {S:ByteArray} (hS:S.data.toList=insL ++ joinV q ++ [41]):parseM S=.ok { stmt0 with kind:=4,table:=⟨#[116]⟩,row:=q }:=by
 cases q with
 | nil=>exact absurd rfl hn
 | cons v r =>
  refine values_back v r h hl S ?_
  rw [hS,tail_comma]
  simp [joinV]
theorem row_snoc (r:List Val) (i:Nat) (h:i<r.length):(r.take (i+1)).map canV=(r.take i).map canV ++ [canV r[i]]:=by
 rw [List.take_succ_eq_append_getElem h,List.map_append]
 rfl
end
end Go.Proofs.YtieojjngeibnmaaGreatDoor
