/- What Print, Right and Parse give; a statement in a block as a whole. -/
import Derived.Test.YtjcpccadmcglgaaGreatDoorZK47
import Derived.Test.YtjcpccadmcglgaaGreatDoorZK40
import Derived.Test.YtjcpccadmcglgaaGreatDoorZK7
set_option linter.unusedVariables false
set_option linter.unusedSimpArgs false
set_option maxRecDepth 100000
set_option maxHeartbeats 64000000
namespace Go.Proofs.YtjcpccadmcglgaaGreatDoor
section
open Go.RowKit
theorem none_bad:parseM ⟨#[]⟩=.error (0,60):=by decide +kernel
theorem print_right {s:Stmt} (h:rightM s=true):printM s=printedM s/\parseM (printedM s)=.ok s:=by
 have h2:=h
 unfold rightM at h2
 refine ⟨by unfold printM;rw [h];rfl,?_⟩
 cases e:parseM (printedM s) with
 | error er=>rw [e] at h2;cases h2
 | ok q=>rw [e] at h2;rw [<- of_decide_eq_true h2]
theorem print_wrong {s:Stmt} (h:rightM s=false):printM s=⟨#[]⟩:=by
 unfold printM
 rw [h]
 rfl
theorem print_size {s:Stmt} (h:(printedM s).size<=4294967000):(printM s).size<=4294967000:=by
 unfold printM
 split
 · exact h
 · exact Nat.zero_le _
theorem st_cells {p:Nat->Prop} {w:World} {L:Lists} {s:Stmt} (h:SlsAt p w L s):(stC L s).all (·.oneCell')=true:=by
 obtain ⟨_,_,h1,-⟩:=h.cols
 obtain ⟨_,_,h2,-⟩:=h.names
 obtain ⟨_,_,h3,-⟩:=h.row
 obtain ⟨_,_,h4,-⟩:=h.sets
 obtain ⟨_,_,h5,-⟩:=h.wher
 obtain ⟨_,_,h6,-⟩:=h.order
 simp [stC,h1,h2,h3,h4,h5,h6,Value.oneCell']
structure StBox (p:Nat->Prop) (g:Nat) (V:Array Value) (s:Stmt) (w:World):Prop where
 box:w.heap[g]? = some (.cells V 33 (0,0))
 ls:∃ L,V=stC L s/\SlsAt p w L s
theorem StBox.below {p:Nat->Prop} {g:Nat} {V:Array Value} {s:Stmt} {w w':World} (h:StBox p g V s w) (b:Below w.heap.size w w'):StBox p g V s w':=by
 obtain ⟨L,h1,h2⟩:=h.ls
 exact ⟨(b.block _ (jB h.box)).trans h.box,L,h1,h2.below b⟩
theorem StBox.size {p:Nat->Prop} {g:Nat} {V:Array Value} {s:Stmt} {w:World} (h:StBox p g V s w):V.size=15:=by
 obtain ⟨L,h1,-⟩:=h.ls
 rw [h1];rfl
theorem StBox.load {p:Nat->Prop} {g:Nat} {V:Array Value} {s:Stmt} {w:World} (h:StBox p g V s w) {N:Nat} (hN:N=15):(loadCellsFrom ⟨g,0,none⟩ 0 N #[]).run Tryz.prog w=.ok V w:=box_load h.box (h.size.trans hN.symm)
theorem st_size {N:Nat} (hN:N=15) (w:World):(sizeOf 33).run Tryz.prog w=.ok N w:=by rw [hN];kernel_rfl
def st0C:Array Value:=#[.int .i64 0,.string ⟨#[]⟩,.string ⟨#[]⟩,.slice none 0 0,.slice none 0 0,.slice none 0 0,.slice none 0 0,.slice none 0 0,.string ⟨#[]⟩,.string ⟨#[]⟩,.string ⟨#[]⟩,.int .i64 0,.slice none 0 0,.int .i64 0,.int .i64 0]
theorem st_new {p:Nat->Prop} {V:Array Value} {L:Lists} {s:Stmt} {w0:World} (h:SlsAt p w0 L s) (hV:V=stC L s) (w:World):(storeCells ⟨w.heap.size,0,none⟩ V.toList 0).run Tryz.prog (w.alloc (.cells #[.int .i64 0,.string ⟨#[]⟩,.string ⟨#[]⟩,.slice none 0 0,.slice none 0 0,.slice none 0 0,.slice none 0 0,.slice none 0 0,.string ⟨#[]⟩,.string ⟨#[]⟩,.string ⟨#[]⟩,.int .i64 0,.slice none 0 0,.int .i64 0,.int .i64 0] 33))=.ok () (w.alloc (.cells V 33)):=by
 have hz:V.size=15:=by rw [hV];rfl
 exact run_storeCells_new w 33 _ V (by rw [hz];kernel_rfl) (by rw [hz];rfl) (by rw [hV];exact st_cells h)
theorem StBox.make {p:Nat->Prop} {L:Lists} {s:Stmt} {w:World} (h:SlsAt p w L s) {V:Array Value} (hV:V=stC L s):StBox p w.heap.size V s (w.alloc (.cells V 33)) :=
 ⟨heap_alloc_new _ _,L,hV,h.below ((b0R).alloc (jR _) _)⟩
theorem right_box {p:Nat->Prop} {g:Nat} {V:Array Value} {s:Stmt} {w:World} (he:EnvL w) (hs:StBox p g V s w) (ok:StOk s) (hsz:(printedM s).size<=4294967000):Calls Tryz.prog 8 #[.agg V] w fun e w'=>e=.returned (.bool (rightM s))/\Below w.heap.size w w':=by
 obtain ⟨L,rfl,h1⟩:=hs.ls
 exact right_any he h1 ok hsz
theorem print_box {p:Nat->Prop} {g:Nat} {V:Array Value} {s:Stmt} {w:World} (he:EnvL w) (hs:StBox p g V s w) (ok:StOk s) (hsz:(printedM s).size<=4294967000):Calls Tryz.prog 7 #[.agg V] w fun e w'=>e=.returned (.string (printM s))/\Below w.heap.size w w':=by
 obtain ⟨L,rfl,h1⟩:=hs.ls
 exact print_any he h1 ok hsz
structure Md14 (s:Stmt):Prop where
 kind:s.kind=1 \/ s.kind=2 \/ s.kind=3
 table:s.table.size<=13
 name:s.name.size<=13
 join:s.join.size<=13
 cols:s.cols.length<=3/\∀ c ∈ s.cols,c.1.size<=13
 names:s.names.length<=3/\∀ x ∈ s.names,x.size<=13
 rest:s.row=[]/\s.sets=[]/\s.wher=[]/\s.order=[]/\s.left=⟨#[]⟩/\s.right=⟨#[]⟩/\s.agg=0/\s.mode=0/\s.n=0
theorem Md14.ok {s:Stmt} (h:Md14 s):StOk s:=by
 obtain ⟨h1,h2,h3,h4,h5,h6,h7,h8,h9⟩:=h.rest
 refine ⟨⟨Nat.le_trans h.cols.1 (by decide),Nat.le_trans h.names.1 (by decide),by rw [h1];exact Nat.zero_le _,by rw [h2];exact Nat.zero_le _,by rw [h3];exact Nat.zero_le _,by rw [h4];exact Nat.zero_le _⟩,fun v hv=>?_,fun v hv=>?_,fun v hv=>?_,fun x hx=>Nat.le_trans (h.names.2 x hx) (by decide),by rw [h7];decide,by rw [h9];decide⟩
 · rw [h1] at hv;cases hv
 · rw [h2] at hv;cases hv
 · rw [h3] at hv;cases hv
theorem Md14.small {s:Stmt} (h:Md14 s):SmallS 13 s:=by
 obtain ⟨h1,h2,h3,h4,h5,h6,h7,h8,h9⟩:=h.rest
 refine ⟨h.table,h.name,h.join,by rw [h5];exact Nat.zero_le _,by rw [h6];exact Nat.zero_le _,h.cols.2,h.names.2,?_,?_,?_,?_,by rw [h9];decide,⟨Nat.le_trans h.cols.1 (by decide),Nat.le_trans h.names.1 (by decide),by rw [h1];exact Nat.zero_le _,by rw [h2];exact Nat.zero_le _,by rw [h3];exact Nat.zero_le _,by rw [h4];exact Nat.zero_le _⟩⟩
 · rw [h1];exact fun v hv=>by cases hv
 · rw [h2];exact fun v hv=>by cases hv
 · rw [h3];exact fun v hv=>by cases hv
 · rw [h4];exact fun v hv=>by cases hv
theorem Md14.size {s:Stmt} (h:Md14 s):(printedM s).size<=4294967000:=Nat.le_trans (printed_small h.small) (by decide)
end
end Go.Proofs.YtjcpccadmcglgaaGreatDoor
