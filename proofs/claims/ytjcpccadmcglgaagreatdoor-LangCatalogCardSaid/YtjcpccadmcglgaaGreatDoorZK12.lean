/- A number's text: the model's reading is ParseInt's. -/
import Derived.Test.YtjcpccadmcglgaaGreatDoorZK10
import Derived.Lib.ParseIntBCases
set_option linter.unusedVariables false
set_option linter.unusedSimpArgs false
set_option maxRecDepth 100000
set_option maxHeartbeats 64000000
namespace Go.Proofs.YtjcpccadmcglgaaGreatDoor
section
open Go
def decF (a:Nat) (l:List UInt8):Nat:=l.foldl (fun a c=>a * 10+(c.toNat - 48)) a
theorem decF_ge:∀ (l:List UInt8) (a:Nat),a<=decF a l
 | [],_=>jR _
 | c :: r,a=>by
  have:=decF_ge r (a * 10+(c.toNat - 48))
  show a<=decF (a * 10+(c.toNat - 48)) r
  omega
theorem uint_dec:∀ (l:List UInt8) (a:Nat),(∀ c ∈ l,digB c=true)->a<=18446744073709551615 ->
 Lib.parseUintM 18446744073709551615 a l=if decF a l<=18446744073709551615 then .ok (decF a l) else .range
 | [],a,_,ha=>by
  show Lib.NumEnd.ok a=if a<=18446744073709551615 then Lib.NumEnd.ok a else Lib.NumEnd.range
  rw [if_pos ha]
 | c :: r,a,hd,ha=>by
  have hc:48<=c.toNat/\c.toNat<=57:=by
   have:=hd c List.mem_cons_self
   have h2:(decide (48<=c.toNat) && decide (c.toNat<=57))=true:=this
   simpa using h2
  have hg:=decF_ge r (a * 10+(c.toNat - 48))
  show _=if decF (a * 10+(c.toNat - 48)) r<=18446744073709551615 then Lib.NumEnd.ok (decF (a * 10+(c.toNat - 48)) r) else Lib.NumEnd.range
  unfold Lib.parseUintM
  rw [if_pos hc]
  by_cases h1:1844674407370955162<=a
  · rw [if_pos h1,if_neg (by omega)]
  · rw [if_neg h1]
    by_cases h2:18446744073709551615<a * 10+(c.toNat - 48)
    · rw [if_pos h2,if_neg (by omega)]
    · rw [if_neg h2]
      exact uint_dec r _ (fun x hx=>hd x (List.mem_cons_of_mem _ hx)) (by omega)
theorem uintB_dec {l:List UInt8} (h0:l ≠ []) (hd:∀ c ∈ l,digB c=true):Lib.parseUintB 64 l=if decN l<=18446744073709551615 then .ok (decN l) else .range:=by
 unfold Lib.parseUintB
 rw [if_neg h0]
 exact uint_dec l 0 hd (by omega)
def NumAs (l:List UInt8):Prop:=Lib.parseIntB 64 l=match numM l with|some v=>.ok v|none=>.range
theorem num_minus {D:List UInt8} (h0:D ≠ []) (hd:∀ c ∈ D,digB c=true):NumAs (45 :: D):=by
 unfold NumAs
 rw [Lib.parseIntB_minus,uintB_dec h0 hd]
 have e:(2:Nat) ^ (64 - 1)=9223372036854775808:=by decide
 rw [e]
 have hn:numM (45 :: D)=if -9223372036854775808<=-(decN D:Int)/\-(decN D:Int)<=9223372036854775807 then some (-(decN D:Int)) else none:=rfl
 rw [hn]
 by_cases h1:decN D<=18446744073709551615
 · rw [if_pos h1]
   show (if 9223372036854775808<decN D then Lib.NumEnd.range else .ok (-(decN D:Int)))=_
   by_cases h2:9223372036854775808<decN D
   · rw [if_pos h2,if_neg (by omega)]
   · rw [if_neg h2,if_pos (by omega)]
 · rw [if_neg h1,if_neg (by omega)]
   rfl
theorem num_plain {c:UInt8} {D:List UInt8} (hd:∀ x ∈ c :: D,digB x=true):NumAs (c :: D):=by
 have hc:48<=c.toNat/\c.toNat<=57:=by
  have:=hd c List.mem_cons_self
  have h2:(decide (48<=c.toNat) && decide (c.toNat<=57))=true:=this
  simpa using h2
 have c45:c ≠ 45:=fun e=>by rw [e] at hc;exact absurd hc.1 (by decide)
 unfold NumAs
 rw [Lib.parseIntB_plain 64 c D (by omega) (by omega),uintB_dec (List.cons_ne_nil _ _) hd,numM_pos c45]
 have e:(2:Nat) ^ (64 - 1)=9223372036854775808:=by decide
 rw [e]
 by_cases h1:decN (c :: D)<=18446744073709551615
 · rw [if_pos h1]
   show (if 9223372036854775808<=decN (c :: D) then Lib.NumEnd.range else .ok (decN (c :: D):Int))=_
   by_cases h2:9223372036854775808<=decN (c :: D)
   · rw [if_pos h2,if_neg (by omega)]
   · rw [if_neg h2,if_pos (by omega)]
 · rw [if_neg h1,if_neg (by omega)]
   rfl
theorem take_span {p:UInt8->Bool}:∀ {L:List UInt8},L.take (spanN p L)=L.takeWhile p
 | []=>rfl
 | c :: r=>by
  unfold spanN
  cases hp:p c with
  | true =>
   rw [List.takeWhile_cons,hp]
   simp only [if_true,List.length_cons,List.take_succ_cons]
   exact congrArg _ (take_span (L:=r))
  | false=>simp [List.takeWhile_cons,hp]
theorem num_as {c:UInt8} {r:List UInt8} (h:(digB c || (c == 45 && headDig r))=true):NumAs ((c :: r).take (1+spanN digB r)):=by
 have ht:(c :: r).take (1+spanN digB r)=c :: r.takeWhile digB:=by
  rw [Nat.add_comm,List.take_succ_cons,take_span]
 rw [ht]
 have hw:∀ x ∈ r.takeWhile digB,digB x=true:=fun x hx=>List.all_eq_true.1 List.all_takeWhile x hx
 cases hc:digB c with
 | true =>
  refine num_plain fun x hx=>?_
  rcases List.mem_cons.1 hx with rfl|hx
  · exact hc
  · exact hw x hx
 | false =>
  rw [hc] at h
  simp only [Bool.false_or,Bool.and_eq_true,beq_iff_eq] at h
  obtain ⟨rfl,h2⟩:=h
  refine num_minus ?_ hw
  cases r with
  | nil=>cases h2
  | cons d r =>
   have h3:digB d=true:=h2
   rw [List.takeWhile_cons,h3]
   simp
end
end Go.Proofs.YtjcpccadmcglgaaGreatDoor
