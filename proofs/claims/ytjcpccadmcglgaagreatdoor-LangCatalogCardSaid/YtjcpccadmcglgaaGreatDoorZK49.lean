/- The reference's generated schema statement. -/
import Derived.Test.YtjcpccadmcglgaaGreatDoorZK48
import Derived.Test.YtjcpccadmcglgaaGreatDoorZK17
import Derived.Test.YtjcpccadmcglgaaGreatDoorZK14
import Derived.Test.YtjcpccadmcglgaaGreatDoorZK2
import Derived.Test.YtjcpccadmcglgaaGreatDoorZK27
import Derived.Laws.CopyOwn
import Derived.Laws.MakeOwn
import Derived.Laws.Tables
import Derived.Test.YtjcpccadmcglgaaGreatDoorZK7
set_option linter.unusedVariables false
set_option linter.unusedSimpArgs false
set_option maxRecDepth 100000
set_option maxHeartbeats 64000000
namespace Go.Proofs.YtjcpccadmcglgaaGreatDoor
open Go.Lib (hid)
section
open Go.RowKit
theorem owned_shape {w:World} {B:Nat} {e:TypeId} {sz n:Nat} {v:Value} {xs:List Value} (h:w.ownsRow B e sz v n xs):∃ a c,v=.slice a n c:=by
 obtain ⟨a,c,h1,_⟩:=owns_shape' h
 exact ⟨a,c,h1⟩
def NewOf (e:TypeId) (cs:List Value) (W:World) (u:Value) (w':World):Prop:=∃ b,u=.slice (some ⟨b,0,none⟩) 1 1/\w'.heap[b]? = some (.cells cs.toArray e (0,0))/\Below W.heap.size W w'
theorem NewOf.below {e:TypeId} {cs:List Value} {W:World} {u:Value} {w w':World} (h:NewOf e cs W u w) (hb:Below w.heap.size w w'):NewOf e cs W u w':=by
 obtain ⟨b,h1,h2,h3⟩:=h
 exact ⟨b,h1,(hb.block _ (jB h2)).trans h2,h3.trans (hb.mono h3.size)⟩
theorem grow_set1 (w:World) (b j:Nat) (v:Value):w.grownBy (w.setCell ⟨b,j,none⟩ v) (some b) :=
 ⟨rfl,rfl,rfl,by simp,fun k hk hne=>heap_setCell_other w ⟨b,j,none⟩ k v (fun e=>hne (by rw [e]))⟩
def callC (L:Lists) (s:Stmt) (rt:Int):Array Value :=
 #[.int .i64 s.kind,.string s.table,.string s.name,L.cols,L.names,L.row,L.sets,L.wher,.string s.join,.string s.left,.string s.right,.int .i64 s.agg,L.order,.int .i64 s.mode,.int .i64 s.n,.int .i64 rt]
structure CX (p:Nat->Prop) (w:World) (b:Nat) (L:Lists) (s:Stmt) (rt:Int) (wx:World):Prop where
 box:wx.heap[b]? = some (.cells (callC L s rt) 35 (0,0))
 ls:SlsAt p wx L s
 g:w.grownBy wx (some b)
theorem CX.below {p:Nat->Prop} {w wx wy:World} {b:Nat} {L:Lists} {s:Stmt} {rt:Int} (h:CX p w b L s rt wx) (hb:Below wx.heap.size wx wy):CX p w b L s rt wy :=
 ⟨(hb.block _ (jB h.box)).trans h.box,h.ls.below hb,grown_then h.g hb⟩
theorem CX.put {p:Nat->Prop} {w wx:World} {b:Nat} {L L':Lists} {s s':Stmt} {rt:Int} (h:CX p w b L s rt wx) (hp:¬ p b) (j:Nat) (v:Value) (hc:(callC L s rt).setIfInBounds j v=callC L' s' rt) (hl:SlsAt p wx L' s'):CX p w b L' s' rt (wx.setCell ⟨b,j,none⟩ v):=by
 have hg:=grow_set1 wx b j v
 refine ⟨by rw [<- hc];exact heap_setCell_same _ _ _ _ _ _ h.box,hl.keep fun k hk hlt=>hg.block k hlt (fun e=>hp (by rw [<- jI e];exact hk)),h.g.trans hg⟩
def TenAt (b:Nat) (w:World):Prop:=∃ zs:List Int,zs.length=10/\(∀ z ∈ zs,0<=z/\z<=65535)/\w.heap[b]? = some (.cells (zs.map (.int .i64)).toArray 3 (0,0))
theorem TenAt.at {b:Nat} {w:World} (h:TenAt b w) (j:Nat) (hj:j<10):∃ z:Int,0<=z/\z<=65535/\w.cell? ⟨b,j,none⟩=some (.int .i64 z):=by
 obtain ⟨zs,h1,h2,h3⟩:=h
 have hl:j<zs.length:=by omega
 obtain ⟨k1,k2⟩:=h2 _ (List.getElem_mem hl)
 refine ⟨zs[j],k1,k2,?_⟩
 rw [jC h3 j,List.getElem?_toArray,List.getElem?_map,List.getElem?_eq_getElem hl]
 rfl
theorem TenAt.keep {b:Nat} {w w':World} (h:TenAt b w) (hk:w'.heap[b]? = w.heap[b]?):TenAt b w':=by
 obtain ⟨zs,h1,h2,h3⟩:=h
 exact ⟨zs,h1,h2,hk.trans h3⟩
theorem TenAt.lt {b:Nat} {w:World} (h:TenAt b w):b<w.heap.size:=by
 obtain ⟨zs,h1,h2,h3⟩:=h
 exact jB h3
theorem TenAt.free {b:Nat} {w:World} (h:TenAt b w) (j:Nat):w.frozen? ⟨b,j,none⟩=false:=by
 obtain ⟨zs,h1,h2,h3⟩:=h
 exact free_of h3 j
theorem TenAt.set {b:Nat} {w:World} (h:TenAt b w) (k:Nat) (y:Int) (hy:0<=y/\y<=65535):TenAt b (w.setCell ⟨b,k,none⟩ (.int .i64 y)):=by
 obtain ⟨zs,h1,h2,h3⟩:=h
 refine ⟨zs.set k y,by rw [List.length_set];exact h1,fun z hz=>?_,?_⟩
 · rcases List.mem_or_eq_of_mem_set hz with hz|rfl
   · exact h2 z hz
   · exact hy
 · rw [heap_setCell_same _ _ _ _ _ _ h3,List.map_set]
   simp
def NamesAt (b:Nat) (w:World):Prop:=b<w.heap.size/\∀ j,j<10->∃ x:ByteArray,x.size<=13/\w.cell? ⟨b,j,none⟩=some (.string x)
theorem NamesAt.keep {b:Nat} {w w':World} (h:NamesAt b w) (hk:w'.heap[b]? = w.heap[b]?) (hs:w.heap.size<=w'.heap.size):NamesAt b w' :=
 ⟨jL h.1 hs,fun j hj=>by
  obtain ⟨x,h1,h2⟩:=h.2 j hj
  exact ⟨x,h1,by rw [<- h2];simp only [World.cell?,hk]⟩⟩
theorem CX.ten {p:Nat->Prop} {w wx:World} {b t:Nat} {L:Lists} {s:Stmt} {rt:Int} (h:CX p w b L s rt wx) (hT:TenAt t w) (ht:t ≠ b):TenAt t wx:=hT.keep (h.g.block _ hT.lt (fun e=>ht (jI e)))
theorem CX.nms {p:Nat->Prop} {w wx:World} {b t:Nat} {L:Lists} {s:Stmt} {rt:Int} (h:CX p w b L s rt wx) (hT:NamesAt t w) (ht:t ≠ b):NamesAt t wx:=hT.keep (h.g.block _ hT.1 (fun e=>ht (jI e))) h.g.size
theorem names_of {b:Nat} {w:World} {L:List ByteArray} (hl:L.length=10) (hs:∀ x ∈ L,x.size<=13) (h:w.heap[b]? = some (.cells (L.map Value.string).toArray 9 (0,0))):NamesAt b w :=
 ⟨jB h,fun j hj=>by
  have hj':j<L.length:=by omega
  refine ⟨L[j],hs _ (List.getElem_mem hj'),?_⟩
  rw [jC h j,List.getElem?_toArray,List.getElem?_map,List.getElem?_eq_getElem hj']
  rfl⟩
theorem col_cells1 (c:ByteArray × Int):∀ u ∈ colEnc c,u.oneCell'=true:=by
 intro u hu
 simp only [colEnc,List.mem_cons,List.not_mem_nil,or_false] at hu
 rcases hu with rfl|rfl <;> rfl
def nm10:List ByteArray:=[⟨#[97]⟩,⟨#[98]⟩,⟨#[99]⟩,⟨#[100]⟩,⟨#[101]⟩,⟨#[102]⟩,⟨#[103]⟩,⟨#[116,119,101,108,118,101,95,98,121,116,101,115]⟩,⟨#[116,104,105,114,116,101,101,110,95,108,111,110,103]⟩,⟨#[]⟩]
def tb10:List ByteArray:=[⟨#[116]⟩,⟨#[117]⟩,⟨#[118]⟩,⟨#[119]⟩,⟨#[120]⟩,⟨#[121]⟩,⟨#[122]⟩,⟨#[112]⟩,⟨#[113]⟩,⟨#[114]⟩]
theorem rem_nat {z:Int} (h0:0<=z) {m:Int} {M:Nat} (hm:m=M) (hM:0<M):∃ j:Nat,Int.tmod z m=(j:Int)/\j<M:=by
 subst hm
 rw [Int.tmod_eq_emod_of_nonneg h0]
 have h1:=Int.emod_nonneg z (show (M:Int) ≠ 0 by omega)
 have h2:=Int.emod_lt_of_pos z (show (0:Int)<M by omega)
 exact ⟨(z % M).toNat,by omega,by omega⟩
theorem made14_any {al:Option Addr} {cl:Nat} {l:List Int} {w:World} (hl:IntsC w al l) (hr:∀ x ∈ l,Rng x) (hn:l.length<=140737488355328) :
 Calls Tryz.prog 6 #[.slice al l.length cl] w fun e w'=>(∃ L s rt,e=.returned (.agg (callC L s rt))/\Md14 s/\SlsAt (fun k=>w.heap.size<=k) w' L s)/\Below w.heap.size w w':=by
 obtain ⟨Pst,hPst⟩:∃ Pst,Pst=fun (e:Ending) (w':World)=>(∃ L s rt,e=.returned (.agg (callC L s rt))/\Md14 s/\SlsAt (fun k=>w.heap.size<=k) w' L s)/\Below w.heap.size w w':=⟨_,rfl⟩
 have HPST:=hid hPst
 rw [<- hPst]
 have HL:=hid hl
 have HR:=hid hr
 clear hPst hl hr
 obtain ⟨W1,hW1⟩:∃ W,(w.alloc (.cells #[.int .i64 0,.string ⟨#[]⟩,.string ⟨#[]⟩,.slice none 0 0,.slice none 0 0,.slice none 0 0,.slice none 0 0,.slice none 0 0,.string ⟨#[]⟩,.string ⟨#[]⟩,.string ⟨#[]⟩,.int .i64 0,.slice none 0 0,.int .i64 0,.int .i64 0,.int .i64 0] 35)).alloc (.cells #[.int .i64 0,.int .i64 0,.int .i64 0,.int .i64 0,.int .i64 0,.int .i64 0,.int .i64 0,.int .i64 0,.int .i64 0,.int .i64 0] 3)=W:=⟨_,rfl⟩
 have b1:Below w.heap.size w W1:=by rw [<- hW1];exact ((b0R).alloc (jR _) _).alloc (by simp) _
 have s1:W1.heap.size=w.heap.size+2:=by rw [<- hW1];simp
 have r1:W1.heap[w.heap.size]? = some (.cells (callC nilL stmt0 0) 35 (0,0)):=by rw [<- hW1];exact (heap_alloc_old _ _ (by simp)).trans (heap_alloc_new _ _)
 have l1:TenAt (w.heap.size+1) W1:=⟨List.replicate 10 0,rfl,fun z hz=>by rw [(List.mem_replicate.1 hz).2];decide,by
  have:=heap_alloc_new (w.alloc (.cells #[.int .i64 0,.string ⟨#[]⟩,.string ⟨#[]⟩,.slice none 0 0,.slice none 0 0,.slice none 0 0,.slice none 0 0,.slice none 0 0,.string ⟨#[]⟩,.string ⟨#[]⟩,.string ⟨#[]⟩,.int .i64 0,.slice none 0 0,.int .i64 0,.int .i64 0,.int .i64 0] 35)) (.cells #[.int .i64 0,.int .i64 0,.int .i64 0,.int .i64 0,.int .i64 0,.int .i64 0,.int .i64 0,.int .i64 0,.int .i64 0,.int .i64 0] 3)
  rw [hW1,World.size_alloc] at this
  exact this⟩
 have K1:=hid (show _/\_/\_/\_ from ⟨b1,s1,r1,l1⟩)
 have hmk:∀ W:World,(Instr.makeSlice 37 (.int .i64 10) (.int .i64 10)).run Tryz.prog W=.ok (.slice (some ⟨W.heap.size,0,none⟩) 10 10) (W.alloc (.cells #[.int .i64 0,.int .i64 0,.int .i64 0,.int .i64 0,.int .i64 0,.int .i64 0,.int .i64 0,.int .i64 0,.int .i64 0,.int .i64 0] 3)):=by
  intro W
  obtain ⟨i,hi,hz0,hz1,hz2⟩:=info_parts info_ints
  have:=run_makeSlice (P:=Tryz.prog) (w:=W) 37 3 i _ Tryz.underlying37 hi hz0 .i64 .i64 10 10 (by omega) (by omega) (by rw [hz1];decide) (by rw [hz2];decide) (by omega)
  rw [hz1,show madeCells (Value.int .i64 0).cells (Int.toNat 10 * 1)=#[.int .i64 0,.int .i64 0,.int .i64 0,.int .i64 0,.int .i64 0,.int .i64 0,.int .i64 0,.int .i64 0,.int .i64 0,.int .i64 0] from by kernel_rfl] at this
  exact this
 clear b1 s1 r1 l1
 go_enter Tryz.func6,Tryz.ntmps6
 go_upto_block 0 with (fail)
 clear hW1 hmk
 go_cut [4] from 12 to 29 (fun x4 wx=>Hid (Below w.heap.size w wx/\wx.heap.size=w.heap.size+2/\wx.heap[w.heap.size]? = some (.cells (callC nilL stmt0 0) 35 (0,0))/\TenAt (w.heap.size+1) wx))
 case first =>
  go_wp2_with fail
  go_loopw [4] (fun ii wr=>∃ k:Nat,k<=10/\ii=.int .i64 k/\Hid (Below w.heap.size w wr/\wr.heap.size=w.heap.size+2/\wr.heap[w.heap.size]? = some (.cells (callC nilL stmt0 0) 35 (0,0))/\TenAt (w.heap.size+1) wr)) (fun ii _=>10 - (intOf ii).toNat)
  case atStart=>exact ⟨0,Nat.zero_le _,rfl,K1.out⟩
  case round =>
   obtain ⟨k,hk,rfl,HK⟩:=hrel
   by_cases hlt:k<10
   · by_cases hls:k<l.length
     · obtain ⟨sb,so,rfl,hsb,hc⟩:∃ b off,al=some ⟨b,off,none⟩/\b<w.heap.size/\∀ t (h:t<l.length),w.cell? ⟨b,off+t,none⟩=some (.int .i64 l[t]):=by
        rcases HL.out with h|h
        · rw [h] at hls;cases hls
        · exact h
       have c0:=(HK.out.1.cell (p:=⟨sb,so+k,none⟩) hsb).trans (hc k hls)
       obtain ⟨x,hx⟩:∃ x,x=l[k]:=⟨_,rfl⟩
       rw [<- hx] at c0
       obtain ⟨y,hy⟩:∃ y,x % 65536=y:=⟨_,rfl⟩
       have hyb:0<=y/\y<=65535:=by omega
       have hm:bits .and .i64 x 65535=y:=(and_mask x 16 (by omega)).trans hy
       obtain ⟨z0,-,-,cz⟩:=HK.out.2.2.2.at k hlt
       have fz:=HK.out.2.2.2.free k
       clear hc hx hy
       go_wp2_with fail
       go_roundw
       case rel =>
        refine ⟨k+1,by omega,by go_num,?_⟩
        exact ⟨HK.out.1.setCell (p:=⟨w.heap.size+1,k,none⟩) (by simp) _,by simp [HK.out.2.1],(heap_setCell_other _ _ _ _ (by simp)).trans HK.out.2.2.1,HK.out.2.2.2.set k y hyb⟩
       case measure=>simp [intOf];omega
     · have hd:decide (k<l.length)=false:=decide_eq_false hls
       have hd':decide ((k:Int)<l.length)=false:=decide_eq_false (by omega)
       go_wp2_with fail
       go_meet
       exact HK
   · have hk10:k=10:=by omega
     subst hk10
     go_wp2_with fail
     go_meet
     exact HK
 case rest =>
  obtain ⟨c1,S1,R1,T1⟩:=hcut.out
  obtain ⟨W3,hW3⟩:∃ W,(wc.alloc (.cells #[.string ⟨#[97]⟩,.string ⟨#[98]⟩,.string ⟨#[99]⟩,.string ⟨#[100]⟩,.string ⟨#[101]⟩,.string ⟨#[102]⟩,.string ⟨#[103]⟩,.string ⟨#[116,119,101,108,118,101,95,98,121,116,101,115]⟩,.string ⟨#[116,104,105,114,116,101,101,110,95,108,111,110,103]⟩,.string ⟨#[]⟩] 9)).alloc (.cells #[.string ⟨#[116]⟩,.string ⟨#[117]⟩,.string ⟨#[118]⟩,.string ⟨#[119]⟩,.string ⟨#[120]⟩,.string ⟨#[121]⟩,.string ⟨#[122]⟩,.string ⟨#[112]⟩,.string ⟨#[113]⟩,.string ⟨#[114]⟩] 9)=W:=⟨_,rfl⟩
  have b3:Below wc.heap.size wc W3:=by rw [<- hW3];exact ((b0R).alloc (jR _) _).alloc (by simp) _
  have s3:W3.heap.size=w.heap.size+4:=by rw [<- hW3];simp [S1]
  have n3:NamesAt (w.heap.size+2) W3:=names_of (L:=nm10) rfl (by decide) (by
   rw [<- hW3]
   have:=heap_alloc_new wc (.cells #[.string ⟨#[97]⟩,.string ⟨#[98]⟩,.string ⟨#[99]⟩,.string ⟨#[100]⟩,.string ⟨#[101]⟩,.string ⟨#[102]⟩,.string ⟨#[103]⟩,.string ⟨#[116,119,101,108,118,101,95,98,121,116,101,115]⟩,.string ⟨#[116,104,105,114,116,101,101,110,95,108,111,110,103]⟩,.string ⟨#[]⟩] 9)
   rw [S1] at this
   exact (heap_alloc_old _ _ (by simp [S1])).trans this)
  have t3:NamesAt (w.heap.size+3) W3:=names_of (L:=tb10) rfl (by decide) (by
   rw [<- hW3]
   have:=heap_alloc_new (wc.alloc (.cells #[.string ⟨#[97]⟩,.string ⟨#[98]⟩,.string ⟨#[99]⟩,.string ⟨#[100]⟩,.string ⟨#[101]⟩,.string ⟨#[102]⟩,.string ⟨#[103]⟩,.string ⟨#[116,119,101,108,118,101,95,98,121,116,101,115]⟩,.string ⟨#[116,104,105,114,116,101,101,110,95,108,111,110,103]⟩,.string ⟨#[]⟩] 9)) (.cells #[.string ⟨#[116]⟩,.string ⟨#[117]⟩,.string ⟨#[118]⟩,.string ⟨#[119]⟩,.string ⟨#[120]⟩,.string ⟨#[121]⟩,.string ⟨#[122]⟩,.string ⟨#[112]⟩,.string ⟨#[113]⟩,.string ⟨#[114]⟩] 9)
   rw [World.size_alloc,S1] at this
   exact this)
  have T3:TenAt (w.heap.size+1) W3:=T1.keep (b3.block _ T1.lt)
  have R3:=(b3.block _ (jB R1)).trans R1
  have B3:=hid (c1.trans (b3.mono c1.size))
  obtain ⟨z9,z90,z91,c9⟩:=T3.at 9 (by decide)
  obtain ⟨j9,hj9,bj9⟩:=rem_nat z90 (m:=403) (M:=403) rfl (by decide)
  obtain ⟨rt,hrt⟩:∃ rt:Int,(j9:Int) - 1=rt:=⟨_,rfl⟩
  have N3:=hid (show _/\_/\_/\_ from ⟨n3,t3,T3,R3⟩)
  clear c1 R1 T1 b3 n3 t3 T3 R3 hcut K1
  go_upto_region 9 with (fail)
  clear c9 hj9
  obtain ⟨W4,hW4⟩:∃ W,W3.alloc (.cells #[.int .i64 0,.string ⟨#[]⟩,.string ⟨#[]⟩,.slice none 0 0,.slice none 0 0,.slice none 0 0,.slice none 0 0,.slice none 0 0,.string ⟨#[]⟩,.string ⟨#[]⟩,.string ⟨#[]⟩,.int .i64 0,.slice none 0 0,.int .i64 0,.int .i64 0,.int .i64 rt] 35)=W:=⟨_,rfl⟩
  rw [hW4]
  have s4:W4.heap.size=w.heap.size+5:=by rw [<- hW4];simp [s3]
  have b4:Below W3.heap.size W3 W4:=by rw [<- hW4];exact (b0R).alloc (jR _) _
  have q4:W4.heap[w.heap.size+4]? = some (.cells (callC nilL stmt0 rt) 35 (0,0)):=by
   have:=heap_alloc_new W3 (.cells (callC nilL stmt0 rt) 35)
   rw [s3] at this
   rw [<- hW4]
   exact this
  have B4:=hid (B3.out.trans (b4.mono B3.out.size))
  have HP:=hid (show ¬ (w.heap.size+4<w.heap.size+4) from by omega)
  have Q4:=hid (show CX (fun k=>w.heap.size+4<k) W4 (w.heap.size+4) nilL stmt0 rt W4 from ⟨q4,nil_read _ _,grownBy_refl _ _⟩)
  have N4:=hid (show NamesAt (w.heap.size+2) W4 from N3.out.1.keep (b4.block _ N3.out.1.1) b4.size)
  have M4:=hid (show NamesAt (w.heap.size+3) W4 from N3.out.2.1.keep (b4.block _ N3.out.2.1.1) b4.size)
  have T4:=hid (show TenAt (w.heap.size+1) W4 from N3.out.2.2.1.keep (b4.block _ N3.out.2.2.1.lt))
  have R4:=hid (show W4.heap[w.heap.size]? = some (.cells (callC nilL stmt0 0) 35 (0,0)) from (b4.block _ (jB N3.out.2.2.2)).trans N3.out.2.2.2)
  clear hW4 b4 q4 N3 B3 hW3 s3
  obtain ⟨z0,z00,z01,c0⟩:=T4.out.at 0 (by decide)
  obtain ⟨j0,hj0,bj0⟩:=rem_nat z00 (m:=3) (M:=3) rfl (by decide)
  obtain ⟨K,hK⟩:∃ K:Int,(1:Int)+(j0:Int)=K:=⟨_,rfl⟩
  have hKb:K=1 \/ K=2 \/ K=3:=by omega
  have f0:=free_of Q4.out.box 0
  have y0:=jC Q4.out.box 0
  simp only [callC,List.getElem?_toArray,List.getElem?_cons_zero,List.getElem?_cons_succ] at y0
  go_upto_region 10 with (fail)
  obtain ⟨W5,hW5⟩:∃ W,W4.setCell ⟨w.heap.size+4,0,none⟩ (.int .i64 K)=W:=⟨_,rfl⟩
  rw [hW5]
  have Q5:=hid (show CX (fun k=>w.heap.size+4<k) W4 (w.heap.size+4) nilL { stmt0 with kind:=K } rt W5 from by
   rw [<- hW5]
   have hl:=Q4.out.ls
   exact Q4.out.put HP.out 0 _ rfl ⟨hl.cols,hl.names,hl.row,hl.sets,hl.wher,hl.order⟩)
  clear hW5 c0 f0 y0 hj0 hK z00 z01 bj0 Q4
  obtain ⟨z1,z10,z11,c1⟩:=(Q5.out.ten T4.out (by omega)).at 1 (by decide)
  obtain ⟨j1,hj1,bj1⟩:=rem_nat z10 (m:=10) (M:=10) rfl (by decide)
  obtain ⟨T,hT,cT⟩:=(Q5.out.nms M4.out (by omega)).2 j1 bj1
  have HT:=hid hT
  have f1:=free_of Q5.out.box 1
  have y1:=jC Q5.out.box 1
  simp only [callC,List.getElem?_toArray,List.getElem?_cons_zero,List.getElem?_cons_succ] at y1
  go_upto_region 11 with (fail)
  obtain ⟨W6,hW6⟩:∃ W,W5.setCell ⟨w.heap.size+4,1,none⟩ (.string T)=W:=⟨_,rfl⟩
  rw [hW6]
  have Q6:=hid (show CX (fun k=>w.heap.size+4<k) W4 (w.heap.size+4) nilL { stmt0 with kind:=K,table:=T } rt W6 from by
   rw [<- hW6]
   have hl:=Q5.out.ls
   exact Q5.out.put HP.out 1 _ rfl ⟨hl.cols,hl.names,hl.row,hl.sets,hl.wher,hl.order⟩)
  clear hW6 c1 cT hT f1 y1 hj1 z10 z11 bj1 Q5
  obtain ⟨z2,z20,z21,c2⟩:=(Q6.out.ten T4.out (by omega)).at 2 (by decide)
  obtain ⟨j2,hj2,bj2⟩:=rem_nat z20 (m:=3) (M:=3) rfl (by decide)
  obtain ⟨n,hnn⟩:∃ n:Nat,(1:Int)+(j2:Int)=(n:Int):=⟨1+j2,by omega⟩
  have hnb:1<=n/\n<=3:=by omega
  have y0:=jC Q6.out.box 0
  simp only [callC,List.getElem?_toArray,List.getElem?_cons_zero,List.getElem?_cons_succ] at y0
  go_upto_block 2 with (fail)
  clear c2 hj2 hnn z20 z21 bj2 y0
  go_cut [9,10] from 62 to 156 (fun x9 x10 wx=>∃ L s,Hid (Md14 s)/\Hid (CX (fun k=>w.heap.size+4<k) W4 (w.heap.size+4) L s rt wx))
  case first =>
   rcases hKb with rfl|rfl|rfl
   · obtain ⟨i0,hi0,hz0,hz1,hz2⟩:=info_parts info_cols
     go_wp2_with fail
     go_loopw [9] (fun x9 wr=>∃ (i:Nat) (cs:List (ByteArray × Int)) (v:Value),i<=n/\x9=.int .i64 i/\Hid (wr.heap[w.heap.size+4]? = some (.cells (callC { nilL with cols:=v } { stmt0 with kind:=1,table:=T,cols:=cs } rt) 35 (0,0))/\W4.grownBy wr (some (w.heap.size+4)))/\Hid (cs.length=i/\(∀ u ∈ cs,u.1.size<=13)/\wr.ownsRow W4.heap.size 62 2 v i (cs.flatMap colEnc))) (fun x9 _=>n - (intOf x9).toNat)
     case atStart=>exact ⟨0,[],.slice none 0 0,Nat.zero_le _,rfl,⟨Q6.out.box,Q6.out.g⟩,rfl,nofun,World.ownsRow_nil _ _ _ _⟩
     case round =>
      obtain ⟨i,cs,v,hi,rfl,HB,HO⟩:=hrel
      obtain ⟨va,vc,rfl⟩:=owned_shape HO.out.2.2
      have hsz:=HB.out.2.size
      by_cases hlt:i<n
      · obtain ⟨z3,z30,z31,c3⟩:=T4.out.at 3 (by decide)
        obtain ⟨z4,z40,z41,c4⟩:=T4.out.at 4 (by decide)
        obtain ⟨m5,hm5⟩:∃ m:Nat,(5:Int)+(i:Int)=(m:Int):=⟨5+i,by omega⟩
        obtain ⟨z5,z50,z51,c5⟩:=T4.out.at m5 (by omega)
        obtain ⟨r4,hr4,br4⟩:=rem_nat z40 (m:=2) (M:=2) rfl (by decide)
        obtain ⟨a4,ha4⟩:∃ a:Nat,(1:Int)+(r4:Int)=(a:Int):=⟨1+r4,by omega⟩
        obtain ⟨m4,hm4⟩:∃ m:Nat,(i:Int) * (a4:Int)=(m:Int):=⟨i * a4,by simp⟩
        have bm4:m4<=4:=by
         have h1:(i * a4:Nat)=m4:=by have:=hm4;rw [<- Int.natCast_mul] at this;exact Int.ofNat.inj this
         have h2:i * a4<=2 * 2:=Nat.mul_le_mul (by omega) (by omega)
         omega
        obtain ⟨t4,ht4⟩:∃ u:Int,z3+(m4:Int)=u:=⟨_,rfl⟩
        obtain ⟨j8,hj8,bj8⟩:=rem_nat (z:=t4) (by omega) (m:=8) (M:=8) rfl (by decide)
        obtain ⟨x,hx,cx⟩:=N4.out.2 j8 (by omega)
        obtain ⟨r5,hr5,br5⟩:=rem_nat z50 (m:=2) (M:=2) rfl (by decide)
        obtain ⟨k5,hk5⟩:∃ k:Int,(1:Int)+(r5:Int)=k:=⟨_,rfl⟩
        have HX:=hid hx
        clear hx
        go_upto_region 17 with (fail)
        refine wp_region_loose2 [([0,1,2,3,4,5,6,7,8,9,10,11,12,13,14,15,16,17,18,19,20,21,22,23,24,25],26),([],27),([28,29],30)] (fun _=>True) (Below wr.heap.size wr) (by kernel_rfl) (by kernel_rfl) (by kernel_rfl) (fun w1 w2 h b=>h.trans (b.mono h.size)) (Below.drew b0R) ?_
        have TJ:=hid (show ∀ x,Below wr.heap.size wr x->x.heap[w.heap.size+4]? = some (.cells (callC { nilL with cols:=.slice va i vc } { stmt0 with kind:=1,table:=T,cols:=cs } rt) 35 (0,0))/\W4.grownBy x (some (w.heap.size+4)) from fun x h=>⟨(h.block _ (jB HB.out.1)).trans HB.out.1,grown_then HB.out.2 h⟩)
        apply wpSegs_cons (fun x=>x.heap[w.heap.size+4]? = some (.cells (callC { nilL with cols:=.slice va i vc } { stmt0 with kind:=1,table:=T,cols:=cs } rt) 35 (0,0))/\W4.grownBy x (some (w.heap.size+4))) (NewOf 62 (colEnc (x,k5)) wr) (fun _ _=>trivial) TJ.out
        case hq =>
         rintro w0 ⟨hb0,hg0⟩
         have ne:Nonempty (Wld (Below w0.heap.size w0)):=⟨⟨w0,Below.refl _ _⟩⟩
         have tr:∀ {a j:Nat} {u:Value},a ≠ w.heap.size+4->W4.cell? ⟨a,j,none⟩=some u->∀ z:Wld (Below w0.heap.size w0),z.val.cell? ⟨a,j,none⟩=some u:=fun {a j u} hne h z=>by
          have hlt:=World.block_lt_of_cell? _ _ h
          have h1:w0.cell? ⟨a,j,none⟩=some u:=by rw [<- h];simp only [World.cell?,hg0.block a hlt (fun e=>hne (jI e))]
          exact (z.good.cell (p:=⟨_,_,none⟩) (World.block_lt_of_cell? _ _ h1)).trans h1
         have d3:=tr (by omega) c3
         have d4:=tr (by omega) c4
         have d5:=tr (by omega) c5
         have dx:=tr (by omega) cx
         have y3:=fun z:Wld (Below w0.heap.size w0)=>jC ((z.good.block _ (jB hb0)).trans hb0) 3
         simp only [callC,nilL,List.getElem?_toArray,List.getElem?_cons_zero,List.getElem?_cons_succ] at y3
         clear tr hb0 hg0
         simp only [pickOps,List.getElem?_cons_zero,List.getElem?_cons_succ]
         apply quiet_hide
         intro KE hKE
         repeat (go_big_quiet_step (fail))
         refine wpQuiet_nil ?_
         exact hKE _ rfl
        case ho=>rfl
        case hop=>rfl
        case hw=>kernel_rfl
        case hDJ=>exact (fun _ _ _ h=>TJ.out _ h.choose_spec.2.2)
        case hD=>exact fun u w1 w2 h hb=>h.below hb
        case hlo =>
         intro wa ba
         go_wp2_with fail
         exact ⟨wa.heap.size,rfl,heap_alloc_new _ _,ba.alloc ba.size _⟩
        case hrest =>
         rintro u w1 ⟨g,rfl,hg0,-⟩
         simp only [Act.put,List.setIfInBounds_toArray,List.set_cons_succ,List.set_cons_zero]
         refine wpSegs_cons0 (fun u w'=>(∃ a c,u=.slice a (i+1) c)/\(w'.heap[w.heap.size+4]? = some (.cells (callC { nilL with cols:=.slice va i vc } { stmt0 with kind:=1,table:=T,cols:=cs } rt) 35 (0,0))/\W4.grownBy w' (some (w.heap.size+4)))/\w'.ownsRow W4.heap.size 62 2 u (i+1) ((cs ++ [(x,k5)]).flatMap colEnc)) ?sub3 rfl rfl ?want3 ?stable3 ?di3 ?lo3 ?on3
         case sub3=>exact fun _ h=>TJ.out _ h.choose_spec.2.2
         case want3=>kernel_rfl
         case stable3=>exact fun u w1 w2 h hb=>⟨h.1,⟨(hb.block _ (jB h.2.1.1)).trans h.2.1.1,grown_then h.2.1.2 hb⟩,owns_below h.2.2 hb⟩
         case di3=>exact fun _ _ _ h=>h.2.1
         case lo3 =>
          rintro wa ⟨g',e,h1,ba⟩
          obtain rfl:g=g':=by simpa using e
          clear e
          have oa:=owns_below HO.out.2.2 ba
          have hba:=(ba.block _ (jB HB.out.1)).trans HB.out.1
          have ga:=grown_then HB.out.2 ba
          refine wpList_append_own_at _ rfl _ _ 26 rfl W4.heap.size 62 i0 _ 2 24 Tryz.underlying26 hi0 hz0 hz1 hz2 rfl (by decide) (.slice va i vc) i _ rfl oa ⟨g,0,none⟩ 1 1 (colEnc (x,k5)) rfl rfl (fun j u hj=>by rw [addr_add,jC h1];simpa using hj) (col_cells1 _) (by unfold maxLen;omega) (by omega) (Nat.le_trans hsz ba.size) ?_
          intro v1 w3 o1 g1 hx1 at1
          have hne:some (w.heap.size+4) ≠ (Value.slice va i vc).ownBlock:=fun e=>by have:=(oa.lt _ e.symm).1;omega
          refine wpList_nil ⟨rfl,v1,rfl,owned_shape o1,⟨(g1.block _ (jB hba) hne).trans hba,?_⟩,by rw [List.flatMap_append];simpa using o1⟩
          cases hv:(Value.slice va i vc).ownBlock with
          | none=>rw [hv] at g1;exact ga.trans ⟨g1.os,g1.tape,g1.output,g1.size,fun k hk _=>g1.block k hk (fun e=>nomatch e)⟩
          | some q=>rw [hv] at g1;exact grown_new ga (oa.lt q hv).1 g1
         case on3 =>
          rintro u3 w3 ⟨⟨a3,c3',rfl⟩,-,-⟩
          simp only [Act.put,List.setIfInBounds_toArray,List.set_cons_succ,List.set_cons_zero]
          apply wpSegs_cons (fun x=>x.heap[w.heap.size+4]? = some (.cells (callC { nilL with cols:=.slice va i vc } { stmt0 with kind:=1,table:=T,cols:=cs } rt) 35 (0,0))/\W4.grownBy x (some (w.heap.size+4))) (fun _ w'=>(w'.heap[w.heap.size+4]? = some (.cells (callC { nilL with cols:=.slice a3 (i+1) c3' } { stmt0 with kind:=1,table:=T,cols:=cs ++ [(x,k5)] } rt) 35 (0,0))/\W4.grownBy w' (some (w.heap.size+4)))/\w'.ownsRow W4.heap.size 62 2 (.slice a3 (i+1) c3') (i+1) ((cs ++ [(x,k5)]).flatMap colEnc)) (fun _ h=>h) (fun _ h=>h.2.1)
          case hq =>
           rintro w0 -
           have ne:Nonempty (Wld (Below w0.heap.size w0)):=⟨⟨w0,Below.refl _ _⟩⟩
           simp only [pickOps,List.getElem?_cons_zero,List.getElem?_cons_succ]
           apply quiet_hide
           intro KE hKE
           repeat (go_big_quiet_step (fail))
           refine wpQuiet_nil ?_
           exact hKE _ rfl
          case ho=>rfl
          case hop=>rfl
          case hw=>kernel_rfl
          case hDJ=>exact fun h=>absurd rfl h
          case hD=>exact fun u w1 w2 h hb=>⟨⟨(hb.block _ (jB h.1.1)).trans h.1.1,grown_then h.1.2 hb⟩,owns_below h.2 hb⟩
          case hlo =>
           rintro wa ⟨-,⟨hba,ga⟩,oa⟩
           have e3:=jC hba 3
           have f3:=free_of hba 3
           simp only [callC,nilL,List.getElem?_toArray,List.getElem?_cons_zero,List.getElem?_cons_succ] at e3
           have HBA:=hid hba
           have HGA:=hid ga
           have HOA:=hid oa
           clear hba ga oa
           go_wp2_with fail
           refine ⟨⟨by have h9:=heap_setCell_same _ _ 3 _ _ (.slice a3 (i+1) c3') HBA.out;exact h9,HGA.out.trans (grow_set1 _ _ _ _)⟩,by have h9:=ownsRow_setCell_below HOA.out (a:=⟨w.heap.size+4,3,none⟩) (show w.heap.size+4<W4.heap.size by omega) (.slice a3 (i+1) c3');simpa [s4] using h9⟩
          case hrest =>
           rintro u4 w4 -
           simp only [Act.put,List.setIfInBounds_toArray,List.set_cons_succ,List.set_cons_zero]
           refine wpSegs_nil ?_
           intro w' h
           have H1:=hid h.1
           have H2:=hid h.2
           clear h
           go_wp2_with fail
           go_roundw
           case rel=>exact ⟨i+1,_,_,by omega,by go_num,H1,by simp [HO.out.1],fun u hu=>(by
            rcases List.mem_append.1 hu with hu|hu
            · exact HO.out.2.1 u hu
            · rw [List.mem_singleton] at hu
              rw [hu]
              exact HX.out),H2.out⟩
           case measure=>simp [intOf];omega
      · have hin:i=n:=by omega
        have hlen:=HO.out.1
        go_wp2_with fail
        go_meet
        refine ⟨_,_,⟨Or.inl rfl,HT.out,Nat.zero_le _,Nat.zero_le _,⟨by show cs.length<=3;omega,HO.out.2.1⟩,⟨Nat.zero_le _,fun c hc=>by cases hc⟩,rfl,rfl,rfl,rfl,rfl,rfl,rfl,rfl,rfl⟩,⟨HB.out.1,?_,HB.out.2⟩⟩
        have SL:=sl_owned (enc:=colEnc) (sz:=2) (hl:=fun _=>rfl) (L:=cs) (by rw [hlen];exact HO.out.2.2) (by omega)
        have hn0:=nil_read (fun k=>w.heap.size+4<k) wr
        exact ⟨SL.weaken fun k hk=>(by omega),hn0.names,hn0.row,hn0.sets,hn0.wher,hn0.order⟩
   · obtain ⟨z3,z30,z31,c3⟩:=(Q6.out.ten T4.out (by omega)).at 3 (by decide)
     obtain ⟨j3,hj3,bj3⟩:=rem_nat z30 (m:=10) (M:=10) rfl (by decide)
     obtain ⟨nm,hnm,cx⟩:=(Q6.out.nms N4.out (by omega)).2 j3 (by omega)
     have HNM:=hid hnm
     have f2:=free_of Q6.out.box 2
     have y2:=jC Q6.out.box 2
     simp only [callC,List.getElem?_toArray,List.getElem?_cons_zero,List.getElem?_cons_succ] at y2
     go_upto_region 20 with (fail)
     obtain ⟨W7,hW7⟩:∃ W,W6.setCell ⟨w.heap.size+4,2,none⟩ (.string nm)=W:=⟨_,rfl⟩
     rw [hW7]
     have Q7:=hid (show CX (fun k=>w.heap.size+4<k) W4 (w.heap.size+4) nilL { stmt0 with kind:=2,table:=T,name:=nm } rt W7 from by
      rw [<- hW7]
      have hl:=Q6.out.ls
      exact Q6.out.put HP.out 2 _ rfl ⟨hl.cols,hl.names,hl.row,hl.sets,hl.wher,hl.order⟩)
     clear hW7 c3 cx f2 y2 hj3 z30 z31 bj3 hnm
     obtain ⟨i0,hi0,hz0,hz1,hz2⟩:=info_parts info_ais
     go_wp2_with fail
     go_loopw [10] (fun x9 wr=>∃ (i:Nat) (cs:List ByteArray) (v:Value),i<=n/\x9=.int .i64 i/\Hid (wr.heap[w.heap.size+4]? = some (.cells (callC { nilL with names:=v } { stmt0 with kind:=2,table:=T,name:=nm,names:=cs } rt) 35 (0,0))/\W4.grownBy wr (some (w.heap.size+4)))/\Hid (cs.length=i/\(∀ u ∈ cs,u.size<=13)/\wr.ownsRow W4.heap.size 9 1 v i (cs.flatMap strEnc))) (fun x9 _=>n - (intOf x9).toNat)
     case atStart=>exact ⟨0,[],.slice none 0 0,Nat.zero_le _,rfl,⟨Q7.out.box,Q7.out.g⟩,rfl,nofun,World.ownsRow_nil _ _ _ _⟩
     case round =>
      obtain ⟨i,cs,v,hi,rfl,HB,HO⟩:=hrel
      obtain ⟨va,vc,rfl⟩:=owned_shape HO.out.2.2
      have hsz:=HB.out.2.size
      by_cases hlt:i<n
      · obtain ⟨z4,z40,z41,c4⟩:=T4.out.at 4 (by decide)
        obtain ⟨z5,z50,z51,c5⟩:=T4.out.at 5 (by decide)
        obtain ⟨r5,hr5,br5⟩:=rem_nat z50 (m:=3) (M:=3) rfl (by decide)
        obtain ⟨m4,hm4⟩:∃ m:Nat,(i:Int) * (r5:Int)=(m:Int):=⟨i * r5,by simp⟩
        have bm4:m4<=4:=by
         have h1:(i * r5:Nat)=m4:=by have:=hm4;rw [<- Int.natCast_mul] at this;exact Int.ofNat.inj this
         have h2:i * r5<=2 * 2:=Nat.mul_le_mul (by omega) (by omega)
         omega
        obtain ⟨t4,ht4⟩:∃ u:Int,z4+(m4:Int)=u:=⟨_,rfl⟩
        obtain ⟨j8,hj8,bj8⟩:=rem_nat (z:=t4) (by omega) (m:=8) (M:=8) rfl (by decide)
        obtain ⟨x,hx,cx⟩:=N4.out.2 j8 (by omega)
        have HX:=hid hx
        clear hx
        go_upto_region 23 with (fail)
        refine wp_region_loose2 [([0,1,2,3,4,5,6,7,8,9,10,11,12,13,14,15,16],17),([],18),([19,20],21)] (fun _=>True) (Below wr.heap.size wr) (by kernel_rfl) (by kernel_rfl) (by kernel_rfl) (fun w1 w2 h b=>h.trans (b.mono h.size)) (Below.drew b0R) ?_
        have TJ:=hid (show ∀ x,Below wr.heap.size wr x->x.heap[w.heap.size+4]? = some (.cells (callC { nilL with names:=.slice va i vc } { stmt0 with kind:=2,table:=T,name:=nm,names:=cs } rt) 35 (0,0))/\W4.grownBy x (some (w.heap.size+4)) from fun x h=>⟨(h.block _ (jB HB.out.1)).trans HB.out.1,grown_then HB.out.2 h⟩)
        apply wpSegs_cons (fun x=>x.heap[w.heap.size+4]? = some (.cells (callC { nilL with names:=.slice va i vc } { stmt0 with kind:=2,table:=T,name:=nm,names:=cs } rt) 35 (0,0))/\W4.grownBy x (some (w.heap.size+4))) (NewOf 9 (strEnc x) wr) (fun _ _=>trivial) TJ.out
        case hq =>
         rintro w0 ⟨hb0,hg0⟩
         have ne:Nonempty (Wld (Below w0.heap.size w0)):=⟨⟨w0,Below.refl _ _⟩⟩
         have tr:∀ {a j:Nat} {u:Value},a ≠ w.heap.size+4->W4.cell? ⟨a,j,none⟩=some u->∀ z:Wld (Below w0.heap.size w0),z.val.cell? ⟨a,j,none⟩=some u:=fun {a j u} hne h z=>by
          have hlt:=World.block_lt_of_cell? _ _ h
          have h1:w0.cell? ⟨a,j,none⟩=some u:=by rw [<- h];simp only [World.cell?,hg0.block a hlt (fun e=>hne (jI e))]
          exact (z.good.cell (p:=⟨_,_,none⟩) (World.block_lt_of_cell? _ _ h1)).trans h1
         have d4:=tr (by omega) c4
         have d5:=tr (by omega) c5
         have dx:=tr (by omega) cx
         have y3:=fun z:Wld (Below w0.heap.size w0)=>jC ((z.good.block _ (jB hb0)).trans hb0) 4
         simp only [callC,nilL,List.getElem?_toArray,List.getElem?_cons_zero,List.getElem?_cons_succ] at y3
         clear tr hb0 hg0
         simp only [pickOps,List.getElem?_cons_zero,List.getElem?_cons_succ]
         apply quiet_hide
         intro KE hKE
         repeat (go_big_quiet_step (fail))
         refine wpQuiet_nil ?_
         exact hKE _ rfl
        case ho=>rfl
        case hop=>rfl
        case hw=>kernel_rfl
        case hDJ=>exact (fun _ _ _ h=>TJ.out _ h.choose_spec.2.2)
        case hD=>exact fun u w1 w2 h hb=>h.below hb
        case hlo =>
         intro wa ba
         go_wp2_with fail
         exact ⟨wa.heap.size,rfl,heap_alloc_new _ _,ba.alloc ba.size _⟩
        case hrest =>
         rintro u w1 ⟨g,rfl,hg0,-⟩
         simp only [Act.put,List.setIfInBounds_toArray,List.set_cons_succ,List.set_cons_zero]
         refine wpSegs_cons0 (fun u w'=>(∃ a c,u=.slice a (i+1) c)/\(w'.heap[w.heap.size+4]? = some (.cells (callC { nilL with names:=.slice va i vc } { stmt0 with kind:=2,table:=T,name:=nm,names:=cs } rt) 35 (0,0))/\W4.grownBy w' (some (w.heap.size+4)))/\w'.ownsRow W4.heap.size 9 1 u (i+1) ((cs ++ [x]).flatMap strEnc)) ?sub3 rfl rfl ?want3 ?stable3 ?di3 ?lo3 ?on3
         case sub3=>exact fun _ h=>TJ.out _ h.choose_spec.2.2
         case want3=>kernel_rfl
         case stable3=>exact fun u w1 w2 h hb=>⟨h.1,⟨(hb.block _ (jB h.2.1.1)).trans h.2.1.1,grown_then h.2.1.2 hb⟩,owns_below h.2.2 hb⟩
         case di3=>exact fun _ _ _ h=>h.2.1
         case lo3 =>
          rintro wa ⟨g',e,h1,ba⟩
          obtain rfl:g=g':=by simpa using e
          clear e
          have oa:=owns_below HO.out.2.2 ba
          have hba:=(ba.block _ (jB HB.out.1)).trans HB.out.1
          have ga:=grown_then HB.out.2 ba
          refine wpList_append_own_at _ rfl _ _ 27 rfl W4.heap.size 9 i0 _ 1 16 Tryz.underlying27 hi0 hz0 hz1 hz2 rfl (by decide) (.slice va i vc) i _ rfl oa ⟨g,0,none⟩ 1 1 (strEnc x) rfl rfl (fun j u hj=>by rw [addr_add,jC h1];simpa using hj) (fun u hu=>by rw [List.mem_singleton.1 hu];rfl) (by unfold maxLen;omega) (by omega) (Nat.le_trans hsz ba.size) ?_
          intro v1 w3 o1 g1 hx1 at1
          have hne:some (w.heap.size+4) ≠ (Value.slice va i vc).ownBlock:=fun e=>by have:=(oa.lt _ e.symm).1;omega
          refine wpList_nil ⟨rfl,v1,rfl,owned_shape o1,⟨(g1.block _ (jB hba) hne).trans hba,?_⟩,by rw [List.flatMap_append];simpa using o1⟩
          cases hv:(Value.slice va i vc).ownBlock with
          | none=>rw [hv] at g1;exact ga.trans ⟨g1.os,g1.tape,g1.output,g1.size,fun k hk _=>g1.block k hk (fun e=>nomatch e)⟩
          | some q=>rw [hv] at g1;exact grown_new ga (oa.lt q hv).1 g1
         case on3 =>
          rintro u3 w3 ⟨⟨a3,c3',rfl⟩,-,-⟩
          simp only [Act.put,List.setIfInBounds_toArray,List.set_cons_succ,List.set_cons_zero]
          apply wpSegs_cons (fun x=>x.heap[w.heap.size+4]? = some (.cells (callC { nilL with names:=.slice va i vc } { stmt0 with kind:=2,table:=T,name:=nm,names:=cs } rt) 35 (0,0))/\W4.grownBy x (some (w.heap.size+4))) (fun _ w'=>(w'.heap[w.heap.size+4]? = some (.cells (callC { nilL with names:=.slice a3 (i+1) c3' } { stmt0 with kind:=2,table:=T,name:=nm,names:=cs ++ [x] } rt) 35 (0,0))/\W4.grownBy w' (some (w.heap.size+4)))/\w'.ownsRow W4.heap.size 9 1 (.slice a3 (i+1) c3') (i+1) ((cs ++ [x]).flatMap strEnc)) (fun _ h=>h) (fun _ h=>h.2.1)
          case hq =>
           rintro w0 -
           have ne:Nonempty (Wld (Below w0.heap.size w0)):=⟨⟨w0,Below.refl _ _⟩⟩
           simp only [pickOps,List.getElem?_cons_zero,List.getElem?_cons_succ]
           apply quiet_hide
           intro KE hKE
           repeat (go_big_quiet_step (fail))
           refine wpQuiet_nil ?_
           exact hKE _ rfl
          case ho=>rfl
          case hop=>rfl
          case hw=>kernel_rfl
          case hDJ=>exact fun h=>absurd rfl h
          case hD=>exact fun u w1 w2 h hb=>⟨⟨(hb.block _ (jB h.1.1)).trans h.1.1,grown_then h.1.2 hb⟩,owns_below h.2 hb⟩
          case hlo =>
           rintro wa ⟨-,⟨hba,ga⟩,oa⟩
           have e3:=jC hba 4
           have f3:=free_of hba 4
           simp only [callC,nilL,List.getElem?_toArray,List.getElem?_cons_zero,List.getElem?_cons_succ] at e3
           have HBA:=hid hba
           have HGA:=hid ga
           have HOA:=hid oa
           clear hba ga oa
           go_wp2_with fail
           refine ⟨⟨by have h9:=heap_setCell_same _ _ 4 _ _ (.slice a3 (i+1) c3') HBA.out;exact h9,HGA.out.trans (grow_set1 _ _ _ _)⟩,by have h9:=ownsRow_setCell_below HOA.out (a:=⟨w.heap.size+4,4,none⟩) (show w.heap.size+4<W4.heap.size by omega) (.slice a3 (i+1) c3');simpa [s4] using h9⟩
          case hrest =>
           rintro u4 w4 -
           simp only [Act.put,List.setIfInBounds_toArray,List.set_cons_succ,List.set_cons_zero]
           refine wpSegs_nil ?_
           intro w' h
           have H1:=hid h.1
           have H2:=hid h.2
           clear h
           go_wp2_with fail
           go_roundw
           case rel=>exact ⟨i+1,_,_,by omega,by go_num,H1,by simp [HO.out.1],fun u hu=>(by
            rcases List.mem_append.1 hu with hu|hu
            · exact HO.out.2.1 u hu
            · rw [List.mem_singleton] at hu
              rw [hu]
              exact HX.out),H2.out⟩
           case measure=>simp [intOf];omega
      · have hin:i=n:=by omega
        have hlen:=HO.out.1
        go_wp2_with fail
        go_meet
        refine ⟨_,_,⟨Or.inr (Or.inl rfl),HT.out,HNM.out,Nat.zero_le _,⟨Nat.zero_le _,fun c hc=>by cases hc⟩,⟨by show cs.length<=3;omega,HO.out.2.1⟩,rfl,rfl,rfl,rfl,rfl,rfl,rfl,rfl,rfl⟩,⟨HB.out.1,?_,HB.out.2⟩⟩
        have SL:=sl_owned (enc:=strEnc) (sz:=1) (hl:=fun _=>rfl) (L:=cs) (by rw [hlen];exact HO.out.2.2) (by omega)
        have hn0:=nil_read (fun k=>w.heap.size+4<k) wr
        exact ⟨hn0.cols,SL.weaken fun k hk=>(by omega),hn0.row,hn0.sets,hn0.wher,hn0.order⟩
   · obtain ⟨z3,z30,z31,c3⟩:=(Q6.out.ten T4.out (by omega)).at 3 (by decide)
     obtain ⟨j3,hj3,bj3⟩:=rem_nat z30 (m:=8) (M:=8) rfl (by decide)
     obtain ⟨x,hx,cx⟩:=(Q6.out.nms N4.out (by omega)).2 j3 (by omega)
     have HX:=hid hx
     have f2:=free_of Q6.out.box 2
     have y2:=jC Q6.out.box 2
     simp only [callC,List.getElem?_toArray,List.getElem?_cons_zero,List.getElem?_cons_succ] at y2
     go_upto_region 26 with (fail)
     obtain ⟨W7,hW7⟩:∃ W,W6.setCell ⟨w.heap.size+4,2,none⟩ (.string x)=W:=⟨_,rfl⟩
     rw [hW7]
     have Q7:=hid (show CX (fun k=>w.heap.size+4<k) W4 (w.heap.size+4) nilL { stmt0 with kind:=3,table:=T,name:=x } rt W7 from by
      rw [<- hW7]
      have hl:=Q6.out.ls
      exact Q6.out.put HP.out 2 _ rfl ⟨hl.cols,hl.names,hl.row,hl.sets,hl.wher,hl.order⟩)
     clear hW7 c3 cx f2 y2 hj3 z30 z31 bj3 hx
     obtain ⟨z4,z40,z41,c4⟩:=(Q7.out.ten T4.out (by omega)).at 4 (by decide)
     obtain ⟨j4,hj4,bj4⟩:=rem_nat z40 (m:=10) (M:=10) rfl (by decide)
     obtain ⟨y,hy,cwy⟩:=(Q7.out.nms N4.out (by omega)).2 j4 bj4
     have HY:=hid hy
     have f8:=free_of Q7.out.box 8
     have y8:=jC Q7.out.box 8
     simp only [callC,List.getElem?_toArray,List.getElem?_cons_zero,List.getElem?_cons_succ] at y8
     obtain ⟨W8,hW8⟩:∃ W,W7.setCell ⟨w.heap.size+4,8,none⟩ (.string y)=W:=⟨_,rfl⟩
     have Q8:=hid (show CX (fun k=>w.heap.size+4<k) W4 (w.heap.size+4) nilL { stmt0 with kind:=3,table:=T,name:=x,join:=y } rt W8 from by
      rw [<- hW8]
      have hl:=Q7.out.ls
      exact Q7.out.put HP.out 8 _ rfl ⟨hl.cols,hl.names,hl.row,hl.sets,hl.wher,hl.order⟩)
     go_wp2_with fail
     go_meet
     exact ⟨_,_,⟨Or.inr (Or.inr rfl),HT.out,HX.out,HY.out,⟨Nat.zero_le _,fun c hc=>by cases hc⟩,⟨Nat.zero_le _,fun c hc=>by cases hc⟩,rfl,rfl,rfl,rfl,rfl,rfl,rfl,rfl,rfl⟩,Q8⟩
  case rest =>
   obtain ⟨L,s,HM,HX⟩:=hcut
   obtain ⟨N,hN⟩:∃ N,N=16:=⟨_,rfl⟩
   have z35:∀ W:World,(sizeOf 35).run Tryz.prog W=.ok N W:=by intro W;rw [hN];kernel_rfl
   obtain ⟨V,hV⟩:∃ V,V=callC L s rt:=⟨_,rfl⟩
   have hb:=HX.out.box
   rw [<- hV] at hb
   have hVs:V.size=N:=by rw [hN,hV];rfl
   have hRc:wc.heap[w.heap.size]? = some (.cells (callC nilL stmt0 0) 35 (0,0)):=(HX.out.g.block _ (jB R4.out) (fun e=>by simp at e)).trans R4.out
   have ld:(loadCellsFrom ⟨w.heap.size+4,0,none⟩ 0 N #[]).run Tryz.prog wc=.ok V wc:=box_load hb hVs
   have hall:V.all (·.oneCell')=true:=by
    have h:=st_cells HX.out.ls
    rw [hV]
    simp [stC] at h
    obtain ⟨g1,g2,g3,g4,g5,g6,g7,g8,g9,g10,g11,g12,g13,g14,g15⟩:=h
    have g16:(Value.int .i64 rt).oneCell'=true:=rfl
    simp [callC,g1,g2,g3,g4,g5,g6,g7,g8,g9,g10,g11,g12,g13,g14,g15,g16]
   obtain ⟨st,hbox,hgr⟩:=box_store (P:=Tryz.prog) (cs:=V) hRc (by rw [hVs,hN];rfl) hall
   have ST:=hid (show _/\_/\_ from ⟨hbox,hgr,hV⟩)
   have HBW:=hid (show Below w.heap.size w wc from B4.out.grown HX.out.g B4.out.size (fun q e=>by cases e;omega))
   have HN:=hid hN
   clear hb hRc hall hbox hgr hV hN
   go_wp2_with fail
   refine bodyPost_ret (results_cell_row rfl _ _ w.heap.size 35 V (0,0) _ rfl ST.out.1 Tryz.underlying35 rfl (by rw [hVs,HN.out];kernel_rfl)) rfl ?_
   rw [HPST.out]
   have hls:=HX.out.ls.bound
   refine ⟨⟨L,s,rt,by rw [ST.out.2.2],HM.out,?_⟩,HBW.out.trans (grown_below ST.out.2.1 (jR _) (by have:=HBW.out.size;omega))⟩
   exact (hls.keep fun k hk hlt=>ST.out.2.1.block k hlt (fun e=>by have:=hk.1;cases e;omega)).weaken fun k hk=>by have:=hk.1;omega
end
end Go.Proofs.YtjcpccadmcglgaaGreatDoor
