/- value.Bytes: a row's bytes. -/
import Derived.Test.YtieojjngeibnmaaGreatDoorZV4
import Derived.Test.YtieojjngeibnmaaGreatDoorZD33
set_option linter.unusedVariables false
set_option linter.unusedSimpArgs false
set_option maxRecDepth 100000
set_option maxHeartbeats 64000000
namespace Go.Proofs.YtieojjngeibnmaaGreatDoor
open Go.Lib (hid)
section
open Go.RowKit
def bytesV (v:Val):List UInt8:=byteOf v.kind :: (if v.kind=1 then be 8 (v.n % 18446744073709551616) else if v.kind=2 then byteOf v.s.size :: v.s.data.toList else [])
def bytesM (r:List Val):ByteArray:=if rowB r then ⟨⟨byteOf r.length :: r.flatMap bytesV⟩⟩ else noStr
theorem byte_val (n:Int) (h0:0<=n) (h1:n<=255):Value.int .u8 ((byteOf n).toNat:Nat)=.int .u8 n:=by
 have:((byteOf n).toNat:Int)=n:=by
  unfold byteOf
  rw [UInt8.toNat_ofNat']
  omega
 rw [this]
theorem bb_below {w w1 w2:World} {l:List UInt8} (h:BB w l w1) (b:Below w1.heap.size w1 w2):BB w l w2:=⟨h.1.trans (b.mono h.1.size),isb_below h.2 b⟩
theorem wbn_any {w w1:World} {l:List UInt8} (n:Int) (h0:0<=n) (h1:n<=255) (h:BB w l w1) (hlen:l.length+1<=140737488355328) :
 Calls Tryz.prog 64 #[.pointer (some ⟨w.heap.size,0,none⟩),.int .u8 n] w1 fun e w'=>e=.returned .nilIface/\BB w (l ++ [byteOf n]) w'/\Lib.OthersKept 5 (some w.heap.size) w1 w':=by
 rw [<- byte_val n h0 h1]
 exact (Tryz.Builder_WriteByte_k w.heap.size w.heap.size (Lib.byteCells l) ((byteOf n).toNat:Nat) w1 h.2 (by simpa [Lib.byteCells] using hlen) h.1.size).mono fun _ _ ⟨h0,h1,h2,h3⟩ =>
  ⟨h0,⟨h.1.trans h2,by rw [show Lib.byteCells (l ++ [byteOf n])=Lib.byteCells l ++ [.int .u8 ((byteOf n).toNat:Nat)] by simp [Lib.byteCells]];exact Or.inr h1⟩,h3⟩
theorem bytesV_len (v:Val) (h:rightB v=true):(bytesV v).length<=60:=by
 unfold rightB at h
 simp only [Bool.and_eq_true,Bool.or_eq_true,decide_eq_true_eq] at h
 unfold bytesV
 by_cases h1:v.kind=1
 · rw [if_pos h1,List.length_cons,be_len];omega
 · rw [if_neg h1]
   by_cases h2:v.kind=2
   · rw [if_pos h2,List.length_cons,List.length_cons,Array.length_toList]
     have h3:v.s.size<=40:=by rcases h.2 with h9|h9;exact absurd h2 h9;exact h9
     have:v.s.data.size=v.s.size:=rfl
     omega
   · rw [if_neg h2];simp
theorem bytesL_len:∀ r:List Val,(∀ v ∈ r,rightB v=true)->(r.flatMap bytesV).length<=60 * r.length
 | [],_=>by simp
 | v :: r,h=>by
  have h1:=bytesV_len v (h v (by simp))
  have h2:=bytesL_len r fun x hx=>h x (by simp [hx])
  simp only [List.flatMap_cons,List.length_append,List.length_cons]
  omega
theorem bytes_any {p:Nat->Prop} {a:Option Addr} {c:Nat} {r:List Val} {w:World} (h:SlV valR p w (.slice a r.length c) r) :
 Calls Tryz.prog 27 #[.slice a r.length c] w fun e w'=>e=.returned (.string (bytesM r))/\Below w.heap.size w w':=by
 obtain ⟨Pst,hPst⟩:∃ Pst,Pst=fun (e:Ending) (w':World)=>e=.returned (.string (bytesM r))/\Below w.heap.size w w':=⟨_,rfl⟩
 have HPST:=hid hPst
 rw [<- hPst]
 have H:=hid h
 have con:=rights_any h
 obtain ⟨n,hn⟩:∃ n,n=r.length:=⟨_,rfl⟩
 have HN:=hid hn
 have hnn:n<=140737488355328:=by rw [hn];exact h.row.2.2.1
 rw [<- hn] at con ⊢
 clear hPst h hn
 cases hr:rowB r with
 | false =>
  have HR:=hid hr
  rw [hr] at con
  clear hr
  go_enter Tryz.func27,Tryz.ntmps27
  go_wp2_with fail
  refine con.mono ?_
  rintro e w2 ⟨rfl,b2⟩
  have B2:=hid b2
  clear con b2
  go_wp2_with fail
  rw [HPST.out]
  refine ⟨?_,B2.out⟩
  unfold bytesM
  rw [HR.out]
  rfl
 | true =>
  have HR:=hid hr
  have hn6:n<=6:=by
   unfold rowB at hr
   simp only [Bool.and_eq_true,decide_eq_true_eq] at hr
   rw [HN.out]
   exact hr.2
  have HALL:=hid (show ∀ v ∈ r,rightB v=true by
   unfold rowB at hr
   simp only [Bool.and_eq_true,List.all_eq_true] at hr
   exact hr.1)
  rw [hr] at con
  clear hr
  go_enter Tryz.func27,Tryz.ntmps27
  go_wp2_with fail
  refine con.mono ?_
  rintro e w2 ⟨rfl,b2⟩
  have B2:=hid b2
  clear con b2
  obtain ⟨w3,hw3⟩:∃ W,w2.alloc (.cells #[.pointer none,.slice none 0 0] 131)=W:=⟨_,rfl⟩
  have hbb:BB w2 [] w3:=by rw [<- hw3];exact bb_start w2
  have con:=wbn_any (n:Int) (by omega) (by omega) hbb (by simp)
  clear hbb
  go_wp2_with fail
  refine con.mono ?_
  rintro e w4 ⟨rfl,b4,-⟩
  have B4:=hid (show BB w2 (byteOf n :: (r.take 0).flatMap bytesV) w4 from b4)
  clear con b4 hw3
  go_wp2_with fail
  go_loopw [15] (fun ii wr=>∃ k:Nat,k<=n/\ii=.int .i64 k/\Hid (BB w2 (byteOf n :: (r.take k).flatMap bytesV) wr)) (fun ii _=>n - (intOf ii).toNat)
  case atStart=>exact ⟨0,Nat.zero_le _,rfl,B4⟩
  case round =>
   obtain ⟨k,hk,rfl,HB⟩:=hrel
   by_cases hlt:k<n
   · have hkr:k<r.length:=by rw [<- HN.out];exact hlt
     have rx:=(H.out.below (B2.out.trans (HB.out.1.mono B2.out.size))).row.2.2.2
     obtain ⟨b,off,rfl,_,hbl⟩:=rx.addr (by intro e;rw [e] at hkr;cases hkr)
     obtain ⟨c0,c1,c2⟩:=rx.val k hkr
     obtain ⟨⟨xk,xn,xs⟩,hx⟩:∃ x,r[k]=x:=⟨_,rfl⟩
     rw [hx] at c0 c1 c2
     simp only at c0 c1 c2
     have HX:=hid (show byteOf n :: (r.take (k+1)).flatMap bytesV=(byteOf n :: (r.take k).flatMap bytesV) ++ bytesV ⟨xk,xn,xs⟩ by rw [List.take_succ_eq_append_getElem hkr,hx,List.flatMap_append];simp)
     have hrv:=HALL.out ⟨xk,xn,xs⟩ (by rw [<- hx];exact List.getElem_mem hkr)
     have hl0:(byteOf n :: (r.take k).flatMap bytesV).length<=1000:=by
      have h1:=bytesL_len (r.take k) fun v hv=>HALL.out v (List.mem_of_mem_take hv)
      rw [List.length_take] at h1
      rw [List.length_cons]
      omega
     unfold rightB knownB at hrv
     simp only [Bool.and_eq_true,Bool.or_eq_true,decide_eq_true_eq] at hrv
     obtain ⟨acc,hacc⟩:∃ acc,acc=byteOf n :: (r.take k).flatMap bytesV:=⟨_,rfl⟩
     rw [<- hacc] at HB HX hl0
     obtain ⟨W,hW⟩:∃ W,wr.alloc (.cells #[.int .i64 xk,.int .i64 xn,.string xs] 60)=W:=⟨_,rfl⟩
     have bW:Below wr.heap.size wr W:=by rw [<- hW];exact (b0R).alloc (jR _) _
     have hq:W.heap[wr.heap.size]? = some (.cells #[.int .i64 xk,.int .i64 xn,.string xs] 60 (0,0)):=by rw [<- hW];exact heap_alloc_new _ _
     have z0:=jC hq 0
     have z1:=jC hq 1
     have z2:=jC hq 2
     simp only [gT,gZ,gS] at z0 z1 z2
     have HBW:=hid (bb_below HB.out bW)
     have HQ:=hid hq
     have HNE:=hid (show some wr.heap.size ≠ some w2.heap.size from fun e=>by
      have h1:=HB.out.2
      have h2:w2.heap.size<wr.heap.size:=h1.elim (fun x=>x.lt) (fun x=>x.lt)
      have h3:=jI e
      omega)
     clear rx hx hkr bW hacc
     rcases (show xk=0 \/ xk=1 \/ xk=2 by omega) with rfl|rfl|rfl
     · have con:=wbn_any 0 (by omega) (by omega) HBW.out (by omega)
       go_wp2_with fail
       refine con.mono ?_
       rintro e w5 ⟨rfl,b5,k5⟩
       have hq5:=k5 _ _ HQ.out HNE.out (by intro c fz e;cases e)
       have y0:=jC hq5 0
       have y1:=jC hq5 1
       have y2:=jC hq5 2
       simp only [gT,gZ,gS] at y0 y1 y2
       have B5:=hid b5
       clear con b5 k5 c0 c1 c2 z0 z1 z2
       have N9:=hid (show BB w2 (byteOf n :: (r.take (k+1)).flatMap bytesV) w5 by rw [HX.out];exact B5.out)
       clear hq hq5
       go_wp2_with fail
       go_roundw
       case rel=>exact ⟨k+1,hlt,by go_num,N9⟩
       case measure=>simp [intOf];omega
     · have con:=wbn_any 1 (by omega) (by omega) HBW.out (by omega)
       go_wp2_with fail
       refine con.mono ?_
       rintro e w5 ⟨rfl,b5,k5⟩
       have hq5:=k5 _ _ HQ.out HNE.out (by intro c fz e;cases e)
       have y0:=jC hq5 0
       have y1:=jC hq5 1
       have y2:=jC hq5 2
       simp only [gT,gZ,gS] at y0 y1 y2
       have B5:=hid b5
       clear con b5 k5 c0 c1 c2 z0 z1 z2
       have con2:=whole_any (xn % 18446744073709551616) (by omega) (by omega) w5
       clear hq hq5
       go_wp2_with fail
       refine con2.mono ?_
       rintro e w6 ⟨rfl,b6⟩
       have con3:=ws_any ⟨(be 8 (xn % 18446744073709551616)).toArray⟩ (bb_below B5.out b6) (by rw [List.length_append];simp [ByteArray.size,be_len];omega)
       clear con2 b6
       go_wp2_with fail
       refine con3.mono ?_
       rintro e w7 ⟨rfl,b7⟩
       have N9:=hid (show BB w2 (byteOf n :: (r.take (k+1)).flatMap bytesV) w7 by rw [HX.out];simpa [bytesV] using b7)
       clear con3 b7 y0 y1 y2
       go_wp2_with fail
       go_roundw
       case rel=>exact ⟨k+1,hlt,by go_num,N9⟩
       case measure=>simp [intOf];omega
     · have hss:xs.size<=40:=by omega
       have con:=wbn_any 2 (by omega) (by omega) HBW.out (by omega)
       go_wp2_with fail
       refine con.mono ?_
       rintro e w5 ⟨rfl,b5,k5⟩
       have hq5:=k5 _ _ HQ.out HNE.out (by intro c fz e;cases e)
       have y0:=jC hq5 0
       have y1:=jC hq5 1
       have y2:=jC hq5 2
       simp only [gT,gZ,gS] at y0 y1 y2
       have B5:=hid b5
       clear con b5 k5 c0 c1 c2 z0 z1 z2
       have con2:=wbn_any (xs.size:Int) (by omega) (by omega) B5.out (by rw [List.length_append];simp;omega)
       go_wp2_with fail
       refine con2.mono ?_
       rintro e w6 ⟨rfl,b6,k6⟩
       have hq6:=k6 _ _ hq5 HNE.out (by intro c fz e;cases e)
       have y3:=jC hq6 2
       simp only [gT,gZ,gS] at y3
       have con3:=ws_any xs b6 (by rw [List.length_append,List.length_append];simp;omega)
       clear con2 b6 k6 hq hq5 hq6 y0 y1 y2
       go_wp2_with fail
       refine con3.mono ?_
       rintro e w7 ⟨rfl,b7⟩
       have N9:=hid (show BB w2 (byteOf n :: (r.take (k+1)).flatMap bytesV) w7 by rw [HX.out];simpa [bytesV] using b7)
       clear con3 b7 y3
       go_wp2_with fail
       go_roundw
       case rel=>exact ⟨k+1,hlt,by go_num,N9⟩
       case measure=>simp [intOf];omega
   · obtain rfl:k=n:=by omega
     have con:=string_any HB.out
     go_wp2_with fail
     refine con.mono ?_
     rintro e w6 ⟨rfl,b6⟩
     have B6:=hid (B2.out.trans (b6.mono B2.out.size))
     clear con b6
     go_wp2_with fail
     rw [HPST.out]
     refine ⟨?_,B6.out⟩
     unfold bytesM
     rw [HR.out,if_pos rfl,HN.out,List.take_length]
     rfl
end
end Go.Proofs.YtieojjngeibnmaaGreatDoor
