/- The reference's pick, one byte, decimal digits. -/
import Derived.Test.YtieojjngeibnmaaGreatDoorZB2
import Derived.Test.YtieojjngeibnmaaGreatDoorZB16
import Derived.Lib.ItoaLen
set_option linter.unusedVariables false
set_option linter.unusedSimpArgs false
set_option maxRecDepth 100000
set_option maxHeartbeats 64000000
namespace Go.Proofs.YtieojjngeibnmaaGreatDoor
open Go.Lib (hid)
section
open Go.RowKit
def pickI (l:List Int) (k:Nat) (n:Int):Int:=l.getD k 0 % 65536 % n
theorem pick_rng (l:List Int) (k:Nat) {n:Int} (hn:0<n):0<=pickI l k n/\pickI l k n<n:=⟨Int.emod_nonneg _ (by omega),Int.emod_lt_of_pos _ hn⟩
theorem pick_any {p:Nat->Prop} {a:Option Addr} {c:Nat} {l:List Int} {w:World} (h:SlV intR p w (.slice a l.length c) l) (k:Nat) (hk:k<=100) (n:Int) (h0:0<n) (h1:n<=1000) :
 Calls Tryz.prog 37 #[.slice a l.length c,.int .i64 k,.int .i64 n] w fun e w'=>e=.returned (.int .i64 (pickI l k n))/\w=w':=by
 obtain ⟨r,hr⟩:∃ r,r=pickI l k n:=⟨_,rfl⟩
 rw [<- hr]
 have hll:=h.row.2.2.1
 by_cases hlt:k<l.length
 · obtain ⟨x,hx⟩:∃ x,l[k]=x:=⟨_,rfl⟩
   have rx:=h.row.2.2.2
   obtain ⟨b,off,rfl,_,hbl⟩:=rx.addr (by intro e;rw [e] at hlt;cases hlt)
   have c0:=rx.int k hlt
   rw [hx] at c0
   have hg:l.getD k 0=x:=by rw [List.getD_eq_getElem?_getD,List.getElem?_eq_getElem hlt,hx];rfl
   obtain ⟨y,hy⟩:∃ y,x % 65536=y:=⟨_,rfl⟩
   have hy0:0<=y/\y<=65535:=by omega
   have hm:bits .and .i64 x 65535=y:=(and_mask x 16 (by omega)).trans hy
   have ht:Int.tmod y n=r:=by
    rw [Int.tmod_eq_emod_of_nonneg hy0.1,hr]
    unfold pickI
    rw [hg,hy]
   clear h rx hx hy hr hg
   go_enter Tryz.func37,Tryz.ntmps37
   go_wp2_with fail
   go_ret
   exact ⟨rfl,rfl⟩
 · have h9:r=0:=by
    rw [hr]
    unfold pickI
    rw [List.getD_eq_getElem?_getD,List.getElem?_eq_none (by omega)]
    simp
   rw [h9]
   clear h hr h9
   go_enter Tryz.func37,Tryz.ntmps37
   go_wp2_with fail
   go_ret
   exact ⟨rfl,rfl⟩
theorem one_any (n:Int) (h0:0<=n) (h1:n<=255) (w:World):Calls Tryz.prog 147 #[.int .i64 n] w fun e w'=>e=.returned (.string ⟨#[UInt8.ofNat n.toNat]⟩)/\Below w.heap.size w w':=by
 have c:=conv_tail (P:=Tryz.prog) w 48 5 9 5 Tryz.underlying48 Tryz.underlying5 Tryz.underlying9 [n] 0 1 1 (by simp)
 simp only [List.map_cons,List.map_nil,List.drop,List.take] at c
 have hw:IntKind.u8.wrap n=n:=by rw [IntKind.wrap_u8];omega
 go_enter Tryz.func147,Tryz.ntmps147
 go_wp2_with fail
 go_ret
 exact ⟨rfl,by go_grown⟩
theorem dec_snoc {m:Nat} (h:10<=m):Lib.decDigits m=Lib.decDigits (m / 10) ++ [UInt8.ofNat (48+m % 10)]:=by
 rw [Lib.decDigits,dif_neg (by omega)]
theorem dec_small {m:Nat} (h:m<10):Lib.decDigits m=[UInt8.ofNat (48+m % 10)]:=by
 rw [Lib.decDigits,dif_pos h,Nat.mod_eq_of_lt h]
def DigI (n:Int) (f:Bool) (m:Int) (s:ByteArray):Prop :=
 (f=true/\m=n/\s=⟨#[]⟩) \/ (f=false/\m.natAbs<=n.natAbs / 10/\Lib.decDigits n.natAbs=(if m=0 then [] else Lib.decDigits m.natAbs) ++ s.data.toList)
theorem DigI.next {n m q t d:Int} {f:Bool} {s u:ByteArray} (h:DigI n f m s) (hb:f=true \/ m ≠ 0) (hq:m.tdiv 10=q) (ht:m.tmod 10=t) (hd:d=if t<0 then 0 - t else t) (hu:u=⟨#[UInt8.ofNat (48+d).toNat]⟩ ++ s):DigI n false q u:=by
 have h1:q.natAbs=m.natAbs / 10:=by rw [<- hq,Int.natAbs_tdiv];rfl
 have h2:d=((m.natAbs % 10:Nat):Int):=by
  have e1:t=((m.natAbs % 10:Nat):Int) \/ t=-((m.natAbs % 10:Nat):Int):=by
   rw [<- ht]
   rcases Int.natAbs_eq m with e|e
   · left
     rw [e]
     simp
     rfl
   · right
     rw [e,Int.neg_tmod]
     simp
     rfl
  rw [hd]
  split <;> omega
 have h3:(48+d).toNat=48+m.natAbs % 10:=by omega
 have h4:u.data.toList=UInt8.ofNat (48+m.natAbs % 10) :: s.data.toList:=by rw [hu,ByteArray.data_append,Array.toList_append,h3];rfl
 have key:∀ N,Lib.decDigits N=(if N / 10=0 then [] else Lib.decDigits (N / 10)) ++ [UInt8.ofNat (48+N % 10)]:=by
  intro N
  by_cases hN:N<10
  · rw [dec_small hN,if_pos (by omega)];rfl
  · rw [dec_snoc (by omega),if_neg (by omega)]
 have hq0:(q=0)=(m.natAbs / 10=0):=by rw [<- h1];simp
 have e:(if q=0 then [] else Lib.decDigits q.natAbs) ++ u.data.toList=Lib.decDigits m.natAbs ++ s.data.toList:=by
  rw [h4,key m.natAbs,h1]
  simp only [hq0]
  simp
 rcases h with ⟨-,rfl,rfl⟩|⟨rfl,h5,h6⟩
 · refine Or.inr ⟨rfl,by omega,?_⟩
   rw [e];simp
 · refine Or.inr ⟨rfl,by omega,?_⟩
   rw [e,h6,if_neg (hb.resolve_left Bool.false_ne_true)]
theorem DigI.size {n m:Int} {f:Bool} {s:ByteArray} (h:DigI n f m s) (h0:-9223372036854775808<=n) (h1:n<=9223372036854775807):s.size<=20/\-9223372036854775808<=m/\m<=9223372036854775807:=by
 rcases h with ⟨-,rfl,rfl⟩|⟨-,h2,h3⟩
 · exact ⟨by decide,h0,h1⟩
 · have h4:=congrArg List.length h3
   rw [Lib.decDigits_length,List.length_append] at h4
   have h5:=Lib.nDigits_le20 n.natAbs (by omega)
   have h6:s.data.toList.length=s.size:=by simp
   exact ⟨by omega,by omega,by omega⟩
theorem DigI.done {n m:Int} {f:Bool} {s:ByteArray} (h:DigI n f m s) (hf:f=false) (hm:m=0):s.data.toList=Lib.decDigits n.natAbs:=by
 rcases h with ⟨h,-,-⟩|⟨-,-,h⟩
 · rw [hf] at h;cases h
 · rw [h,if_pos hm];rfl
theorem digits_any (n:Int) (h0:-9223372036854775808<=n) (h1:n<=9223372036854775807) (w:World):Calls Tryz.prog 86 #[.int .i64 n] w fun e w'=>e=.returned (.string ⟨⟨Lib.itoa n⟩⟩)/\Below w.heap.size w w':=by
 obtain ⟨N,hN⟩:∃ N,N=n:=⟨_,rfl⟩
 have HN:=hid hN
 have H01:=hid (And.intro h0 h1)
 go_enter Tryz.func86,Tryz.ntmps86
 go_wp2_with fail
 go_loopw [3,4,5] (fun vs vm vf wr=>∃ (f:Bool) (m:Int) (s:ByteArray),vf=.bool f/\vm=.int .i64 m/\vs=.string s/\Hid (DigI N f m s)/\Hid (Below w.heap.size w wr)) (fun _ vm vf _=>2 * (intOf vm).natAbs+(match vf with | .bool true=>1|_=>0))
 case atStart=>exact ⟨true,n,_,rfl,rfl,rfl,Or.inl ⟨rfl,HN.out.symm,rfl⟩,Below.refl _ _⟩
 case round =>
  obtain ⟨f,m,s,rfl,rfl,rfl,HI,HB⟩:=hrel
  have hb:=HI.out.size (by rw [HN.out];exact H01.out.1) (by rw [HN.out];exact H01.out.2)
  obtain ⟨hs,hm0,hm1⟩:=hb
  by_cases hgo:f=true \/ m ≠ 0
  · have hc:f=true \/ (f=false/\(decide (m ≠ 0)=true)/\(m == 0)=false):=by
     cases f
     · right
       have:=hgo.resolve_left Bool.false_ne_true
       exact ⟨rfl,decide_eq_true this,by simpa using this⟩
     · exact Or.inl rfl
    obtain ⟨q,hq⟩:∃ q,m.tdiv 10=q:=⟨_,rfl⟩
    obtain ⟨t,ht⟩:∃ t,m.tmod 10=t:=⟨_,rfl⟩
    have hqb:-9223372036854775808<=q/\q<=9223372036854775807/\q.natAbs<=m.natAbs / 10:=by
     have h1:q.natAbs=m.natAbs / 10:=by rw [<- hq,Int.natAbs_tdiv];rfl
     omega
    have htb:-9<=t/\t<=9:=by
     have h1:t.natAbs=m.natAbs % 10:=by rw [<- ht,Int.natAbs_tmod];rfl
     omega
    obtain ⟨d,hd⟩:∃ d,d=if t<0 then 0 - t else t:=⟨_,rfl⟩
    have hdb:0<=d/\d<=9:=by rw [hd];split <;> omega
    have HX:=hid (fun u hu=>HI.out.next (u:=u) hgo hq ht hd hu)
    have HM:=hid (show 2 * q.natAbs<2 * m.natAbs+(match (Value.bool f) with | .bool true=>1|_=>0) by
     rcases hc with rfl|⟨-,h,-⟩
     · show 2 * q.natAbs<2 * m.natAbs+1
       omega
     · have h2:m ≠ 0:=of_decide_eq_true h
       omega)
    clear hgo
    rcases hc with rfl|⟨rfl,hc1,hc2⟩
    · by_cases htn:t<0
      · have con:=one_any (48 + -t) (by omega) (by omega) wr
        have HY:=hid (show DigI N false q (⟨#[UInt8.ofNat (48 + -t).toNat]⟩ ++ s) from HX.out _ (by rw [hd,if_pos htn,Int.zero_sub]))
        clear hd hdb
        go_wp2_with fail
        refine con.mono ?_
        rintro e w2 ⟨rfl,b2⟩
        have B2:=hid (HB.out.trans (b2.mono HB.out.size))
        clear con b2
        go_wp2_with fail
        go_roundw
        case rel=>exact ⟨false,q,_,rfl,rfl,rfl,HY.out,B2.out⟩
        case measure=>exact HM.out
      · have con:=one_any (48+t) (by omega) (by omega) wr
        have HY:=hid (show DigI N false q (⟨#[UInt8.ofNat (48+t).toNat]⟩ ++ s) from HX.out _ (by rw [hd,if_neg htn]))
        clear hd hdb
        go_wp2_with fail
        refine con.mono ?_
        rintro e w2 ⟨rfl,b2⟩
        have B2:=hid (HB.out.trans (b2.mono HB.out.size))
        clear con b2
        go_wp2_with fail
        go_roundw
        case rel=>exact ⟨false,q,_,rfl,rfl,rfl,HY.out,B2.out⟩
        case measure=>exact HM.out
    · by_cases htn:t<0
      · have con:=one_any (48 + -t) (by omega) (by omega) wr
        have HY:=hid (show DigI N false q (⟨#[UInt8.ofNat (48 + -t).toNat]⟩ ++ s) from HX.out _ (by rw [hd,if_pos htn,Int.zero_sub]))
        clear hd hdb
        go_wp2_with fail
        refine con.mono ?_
        rintro e w2 ⟨rfl,b2⟩
        have B2:=hid (HB.out.trans (b2.mono HB.out.size))
        clear con b2
        go_wp2_with fail
        go_roundw
        case rel=>exact ⟨false,q,_,rfl,rfl,rfl,HY.out,B2.out⟩
        case measure=>exact HM.out
      · have con:=one_any (48+t) (by omega) (by omega) wr
        have HY:=hid (show DigI N false q (⟨#[UInt8.ofNat (48+t).toNat]⟩ ++ s) from HX.out _ (by rw [hd,if_neg htn]))
        clear hd hdb
        go_wp2_with fail
        refine con.mono ?_
        rintro e w2 ⟨rfl,b2⟩
        have B2:=hid (HB.out.trans (b2.mono HB.out.size))
        clear con b2
        go_wp2_with fail
        go_roundw
        case rel=>exact ⟨false,q,_,rfl,rfl,rfl,HY.out,B2.out⟩
        case measure=>exact HM.out
  · have hf:f=false:=by cases f;rfl;exact absurd (Or.inl rfl) hgo
    have hm:m=0:=Classical.byContradiction fun h=>hgo (Or.inr h)
    have HD:=hid (HI.out.done hf hm)
    clear hgo
    subst hf hm
    by_cases hneg:n<0
    · have HR:=hid (show (⟨#[45]⟩ ++ s:ByteArray)=⟨⟨Lib.itoa n⟩⟩ by
       apply ByteArray.ext
       apply Array.toList_inj.1
       rw [ByteArray.data_append,Array.toList_append,HD.out,HN.out]
       unfold Lib.itoa
       rw [if_pos hneg]
       rfl)
      go_wp2_with fail
      go_ret
      exact ⟨by rw [<- HR.out];rfl,HB.out⟩
    · have HR:=hid (show s=⟨⟨Lib.itoa n⟩⟩ by
       apply ByteArray.ext
       apply Array.toList_inj.1
       rw [HD.out,HN.out]
       unfold Lib.itoa
       rw [if_neg hneg,show n.natAbs=n.toNat by omega])
      go_wp2_with fail
      go_ret
      exact ⟨by rw [<- HR.out];rfl,HB.out⟩
end
end Go.Proofs.YtieojjngeibnmaaGreatDoor
