/- firsts: the table of a statement's first words. -/
import Derived.Test.YtjcpccadmcglgaaGreatDoorZK34
import Derived.Test.YtjcpccadmcglgaaGreatDoorZK29
import Derived.Test.YtjcpccadmcglgaaGreatDoorZK31
import Derived.Test.YtjcpccadmcglgaaGreatDoorZK11
import Derived.StringKeys
import Derived.Laws.EntriesVeiled
import Derived.Test.YtjcpccadmcglgaaGreatDoorZK30
set_option linter.unusedVariables false
set_option linter.unusedSimpArgs false
set_option maxRecDepth 100000
set_option maxHeartbeats 64000000
namespace Go.Proofs.YtjcpccadmcglgaaGreatDoor
open Go.Lib (hid)
section
open Go.RowKit Go.Maps Go.WideMaps
theorem law_str:Keyed Tryz.prog 9:=string_keyed Tryz.underlying9
theorem zero_ffn (w:World):(zeroValue 69).run Tryz.prog w=.ok .nilFunc w:=by kernel_rfl
def firstsF:List Value:=[.nilFunc,.func (.func 38) #[] #[],.func (.func 39) #[] #[],.func (.func 40) #[] #[],.func (.func 41) #[] #[],.func (.func 42) #[] #[],.func (.func 43) #[] #[],.func (.func 44) #[] #[],.func (.func 45) #[] #[],.func (.func 46) #[] #[],.func (.func 47) #[] #[],.func (.func 48) #[] #[],.func (.func 49) #[] #[],.func (.func 50) #[] #[],.func (.func 51) #[] #[]]
def DK:List (ByteArray × Nat)->DataW Unit
 | []=>.map []
 | q :: r=>(DK r).put (.string q.1.data.toList) (.lit (.int .i64 (q.2:Int)))
theorem dk_map:∀ l,IsMap (DK l)
 | []=>isMap_empty
 | q :: r=>(dk_map r).put _ _
theorem lit_str_ne {a b:ByteArray} (h:a ≠ b):Lit.string a.data.toList ≠ .string b.data.toList:=by
 intro e
 simp only [Lit.string.injEq] at e
 exact h (by cases a;cases b;simp_all [Array.toList_inj])
def atL (l:List (ByteArray × Nat)) (x:ByteArray):Nat:=match l.find? (fun q=>decide (q.1=x)) with|some q=>q.2|none=>0
theorem dk_at:∀ (l:List (ByteArray × Nat)) (x:ByteArray),(DK l).atKey (.string x.data.toList) (.lit (.int .i64 0))=.lit (.int .i64 (atL l x:Int))/\Maps.has (DK l) (.string x.data.toList)=(l.find? (fun q=>decide (q.1=x))).isSome
 | [],x=>⟨rfl,rfl⟩
 | q :: r,x=>by
  obtain ⟨h1,h2⟩:=dk_at r x
  unfold DK atL
  by_cases e:q.1=x
  · rw [<- e,atKey_put_same (dk_map r) (show WideAt.IsKeyLit (.string q.1.data.toList) from trivial),has_put_same (dk_map r) (show WideAt.IsKeyLit (.string q.1.data.toList) from trivial)]
    simp
  · rw [atKey_put_other (lit_str_ne (Ne.symm e)),has_put_other (lit_str_ne (Ne.symm e)),h1,h2]
    simp [e,atL]
def firstsK:List (ByteArray × Nat):=[(w_slot,14),(w_vacuum,13),(w_prepare,12),(w_savepoint,11),(w_checkpoint,10),(w_rollback,9),(w_commit,8),(w_begin,7),(w_select,6),(w_delete,5),(w_update,4),(w_insert,3),(w_rename,2),(w_create,1)]
theorem firstsF_at:fnElem firstsF .nilFunc=some (.lit (.int .i64 0),[])/\fnElem firstsF (.func (.func 38) #[] #[])=some (.lit (.int .i64 1),[])/\fnElem firstsF (.func (.func 39) #[] #[])=some (.lit (.int .i64 2),[])/\fnElem firstsF (.func (.func 40) #[] #[])=some (.lit (.int .i64 3),[])/\fnElem firstsF (.func (.func 41) #[] #[])=some (.lit (.int .i64 4),[])/\fnElem firstsF (.func (.func 42) #[] #[])=some (.lit (.int .i64 5),[])/\fnElem firstsF (.func (.func 43) #[] #[])=some (.lit (.int .i64 6),[])/\fnElem firstsF (.func (.func 44) #[] #[])=some (.lit (.int .i64 7),[])/\fnElem firstsF (.func (.func 45) #[] #[])=some (.lit (.int .i64 8),[])/\fnElem firstsF (.func (.func 46) #[] #[])=some (.lit (.int .i64 9),[])/\fnElem firstsF (.func (.func 47) #[] #[])=some (.lit (.int .i64 10),[])/\fnElem firstsF (.func (.func 48) #[] #[])=some (.lit (.int .i64 11),[])/\fnElem firstsF (.func (.func 49) #[] #[])=some (.lit (.int .i64 12),[])/\fnElem firstsF (.func (.func 50) #[] #[])=some (.lit (.int .i64 13),[])/\fnElem firstsF (.func (.func 51) #[] #[])=some (.lit (.int .i64 14),[]):=by
 refine ⟨fnElem_get (i:=0) (by simp [firstsF]) rfl (fun j hj=>?_),fnElem_get (i:=1) (by simp [firstsF]) rfl (fun j hj=>?_),fnElem_get (i:=2) (by simp [firstsF]) rfl (fun j hj=>?_),fnElem_get (i:=3) (by simp [firstsF]) rfl (fun j hj=>?_),fnElem_get (i:=4) (by simp [firstsF]) rfl (fun j hj=>?_),fnElem_get (i:=5) (by simp [firstsF]) rfl (fun j hj=>?_),fnElem_get (i:=6) (by simp [firstsF]) rfl (fun j hj=>?_),fnElem_get (i:=7) (by simp [firstsF]) rfl (fun j hj=>?_),fnElem_get (i:=8) (by simp [firstsF]) rfl (fun j hj=>?_),fnElem_get (i:=9) (by simp [firstsF]) rfl (fun j hj=>?_),fnElem_get (i:=10) (by simp [firstsF]) rfl (fun j hj=>?_),fnElem_get (i:=11) (by simp [firstsF]) rfl (fun j hj=>?_),fnElem_get (i:=12) (by simp [firstsF]) rfl (fun j hj=>?_),fnElem_get (i:=13) (by simp [firstsF]) rfl (fun j hj=>?_),fnElem_get (i:=14) (by simp [firstsF]) rfl (fun j hj=>?_)⟩
 · exact absurd hj (Nat.not_lt_zero j)
 all_goals
  rcases (show j=0 \/ j=1 \/ j=2 \/ j=3 \/ j=4 \/ j=5 \/ j=6 \/ j=7 \/ j=8 \/ j=9 \/ j=10 \/ j=11 \/ j=12 \/ j=13 by omega) with rfl|rfl|rfl|rfl|rfl|rfl|rfl|rfl|rfl|rfl|rfl|rfl|rfl|rfl <;> simp [firstsF] at * <;> try omega
theorem firsts_any (w:World) :
 Calls Tryz.prog 18 #[] w fun e w'=>∃ g,e=.returned (.map (some g))/\Below w.heap.size w w'/\w'.ownsMap Tryz.prog 9 (fnElem firstsF) g 14 (DK firstsK):=by
 have hmm:=@run_makeMap Tryz.prog
 obtain ⟨_,f1,f2,f3,f4,f5,f6,f7,f8,f9,f10,f11,f12,f13,f14⟩:=firstsF_at
 have b0:=hid (show Below w.heap.size w (w.alloc (.map #[] 0)) from (b0R).alloc (jR _) _)
 go_enter Tryz.func18,Tryz.ntmps18
 go_wp2_with (first
  | (refine wpList_insert_own _ rfl _ _ _ 71 rfl 9 69 law_str Tryz.underlying71 (fnElem firstsF) w.heap.size 13 _ rfl o13 (by decide) (.string w_slot) _ (.string w_slot.data.toList) rfl rfl (keyOf_string_mk Tryz.underlying9 (by decide)) _ [] f14 ?_;intro w14 o14 g14;have b14:=hid (b13.out.grown g14 b13.out.size (fun j hj=>by cases hj;exact jR _));clear g14)
  | (refine wpList_insert_own _ rfl _ _ _ 71 rfl 9 69 law_str Tryz.underlying71 (fnElem firstsF) w.heap.size 12 _ rfl o12 (by decide) (.string w_vacuum) _ (.string w_vacuum.data.toList) rfl rfl (keyOf_string_mk Tryz.underlying9 (by decide)) _ [] f13 ?_;intro w13 o13 g13;have b13:=hid (b12.out.grown g13 b12.out.size (fun j hj=>by cases hj;exact jR _));clear g13)
  | (refine wpList_insert_own _ rfl _ _ _ 71 rfl 9 69 law_str Tryz.underlying71 (fnElem firstsF) w.heap.size 11 _ rfl o11 (by decide) (.string w_prepare) _ (.string w_prepare.data.toList) rfl rfl (keyOf_string_mk Tryz.underlying9 (by decide)) _ [] f12 ?_;intro w12 o12 g12;have b12:=hid (b11.out.grown g12 b11.out.size (fun j hj=>by cases hj;exact jR _));clear g12)
  | (refine wpList_insert_own _ rfl _ _ _ 71 rfl 9 69 law_str Tryz.underlying71 (fnElem firstsF) w.heap.size 10 _ rfl o10 (by decide) (.string w_savepoint) _ (.string w_savepoint.data.toList) rfl rfl (keyOf_string_mk Tryz.underlying9 (by decide)) _ [] f11 ?_;intro w11 o11 g11;have b11:=hid (b10.out.grown g11 b10.out.size (fun j hj=>by cases hj;exact jR _));clear g11)
  | (refine wpList_insert_own _ rfl _ _ _ 71 rfl 9 69 law_str Tryz.underlying71 (fnElem firstsF) w.heap.size 9 _ rfl o9 (by decide) (.string w_checkpoint) _ (.string w_checkpoint.data.toList) rfl rfl (keyOf_string_mk Tryz.underlying9 (by decide)) _ [] f10 ?_;intro w10 o10 g10;have b10:=hid (b9.out.grown g10 b9.out.size (fun j hj=>by cases hj;exact jR _));clear g10)
  | (refine wpList_insert_own _ rfl _ _ _ 71 rfl 9 69 law_str Tryz.underlying71 (fnElem firstsF) w.heap.size 8 _ rfl o8 (by decide) (.string w_rollback) _ (.string w_rollback.data.toList) rfl rfl (keyOf_string_mk Tryz.underlying9 (by decide)) _ [] f9 ?_;intro w9 o9 g9;have b9:=hid (b8.out.grown g9 b8.out.size (fun j hj=>by cases hj;exact jR _));clear g9)
  | (refine wpList_insert_own _ rfl _ _ _ 71 rfl 9 69 law_str Tryz.underlying71 (fnElem firstsF) w.heap.size 7 _ rfl o7 (by decide) (.string w_commit) _ (.string w_commit.data.toList) rfl rfl (keyOf_string_mk Tryz.underlying9 (by decide)) _ [] f8 ?_;intro w8 o8 g8;have b8:=hid (b7.out.grown g8 b7.out.size (fun j hj=>by cases hj;exact jR _));clear g8)
  | (refine wpList_insert_own _ rfl _ _ _ 71 rfl 9 69 law_str Tryz.underlying71 (fnElem firstsF) w.heap.size 6 _ rfl o6 (by decide) (.string w_begin) _ (.string w_begin.data.toList) rfl rfl (keyOf_string_mk Tryz.underlying9 (by decide)) _ [] f7 ?_;intro w7 o7 g7;have b7:=hid (b6.out.grown g7 b6.out.size (fun j hj=>by cases hj;exact jR _));clear g7)
  | (refine wpList_insert_own _ rfl _ _ _ 71 rfl 9 69 law_str Tryz.underlying71 (fnElem firstsF) w.heap.size 5 _ rfl o5 (by decide) (.string w_select) _ (.string w_select.data.toList) rfl rfl (keyOf_string_mk Tryz.underlying9 (by decide)) _ [] f6 ?_;intro w6 o6 g6;have b6:=hid (b5.out.grown g6 b5.out.size (fun j hj=>by cases hj;exact jR _));clear g6)
  | (refine wpList_insert_own _ rfl _ _ _ 71 rfl 9 69 law_str Tryz.underlying71 (fnElem firstsF) w.heap.size 4 _ rfl o4 (by decide) (.string w_delete) _ (.string w_delete.data.toList) rfl rfl (keyOf_string_mk Tryz.underlying9 (by decide)) _ [] f5 ?_;intro w5 o5 g5;have b5:=hid (b4.out.grown g5 b4.out.size (fun j hj=>by cases hj;exact jR _));clear g5)
  | (refine wpList_insert_own _ rfl _ _ _ 71 rfl 9 69 law_str Tryz.underlying71 (fnElem firstsF) w.heap.size 3 _ rfl o3 (by decide) (.string w_update) _ (.string w_update.data.toList) rfl rfl (keyOf_string_mk Tryz.underlying9 (by decide)) _ [] f4 ?_;intro w4 o4 g4;have b4:=hid (b3.out.grown g4 b3.out.size (fun j hj=>by cases hj;exact jR _));clear g4)
  | (refine wpList_insert_own _ rfl _ _ _ 71 rfl 9 69 law_str Tryz.underlying71 (fnElem firstsF) w.heap.size 2 _ rfl o2 (by decide) (.string w_insert) _ (.string w_insert.data.toList) rfl rfl (keyOf_string_mk Tryz.underlying9 (by decide)) _ [] f3 ?_;intro w3 o3 g3;have b3:=hid (b2.out.grown g3 b2.out.size (fun j hj=>by cases hj;exact jR _));clear g3)
  | (refine wpList_insert_own _ rfl _ _ _ 71 rfl 9 69 law_str Tryz.underlying71 (fnElem firstsF) w.heap.size 1 _ rfl o1 (by decide) (.string w_rename) _ (.string w_rename.data.toList) rfl rfl (keyOf_string_mk Tryz.underlying9 (by decide)) _ [] f2 ?_;intro w2 o2 g2;have b2:=hid (b1.out.grown g2 b1.out.size (fun j hj=>by cases hj;exact jR _));clear g2)
  | (refine wpList_insert_own _ rfl _ _ _ 71 rfl 9 69 law_str Tryz.underlying71 (fnElem firstsF) w.heap.size 0 (.map []) rfl (World.ownsMap_made _ _ _ _) (by decide) (.string w_create) _ (.string w_create.data.toList) rfl rfl (keyOf_string_mk Tryz.underlying9 (by decide)) _ [] f1 ?_;intro w1 o1 g1;have b1:=hid (b0.out.grown g1 b0.out.size (fun j hj=>by cases hj;exact jR _));clear g1))
 go_ret
 exact ⟨w.heap.size,rfl,b14.out,o14⟩
def FirstsAt (u:Value) (w:World):Prop:=∃ g,u=.map (some g)/\w.ownsMap Tryz.prog 9 (fnElem firstsF) g 14 (DK firstsK)
theorem map_below {H:Type} {P:Program} {k:TypeId} {R:Value->Option (DataW H × List MemPlace)} {b n:Nat} {D:DataW H} {w w':World} (h:w.ownsMap P k R b n D) (hb:Below w.heap.size w w'):w'.ownsMap P k R b n D:=h.kept (below_grown hb none) (by simp)
theorem FirstsAt.below {u:Value} {w w':World} (h:FirstsAt u w) (hb:Below w.heap.size w w'):FirstsAt u w':=by
 obtain ⟨g,h1,h2⟩:=h
 exact ⟨g,h1,map_below h2 hb⟩
def firstV (x:ByteArray):Value:=firstsF.getD (atL firstsK x) .nilFunc
def firstB (x:ByteArray):Bool:=(firstsK.find? (fun q=>decide (q.1=x))).isSome
theorem firsts_run (x:ByteArray) (hx:x.size<=maxLen) (w:World) (g:Nat) (h:w.ownsMap Tryz.prog 9 (fnElem firstsF) g 14 (DK firstsK)) :
 (Instr.lookup 71 (.map (some g)) (.string x) true).run Tryz.prog w=.ok (.tuple #[firstV x,.bool (firstB x)]) w:=by
 obtain ⟨v,ps,h1,h2⟩:=h.look_ok law_str Tryz.underlying71 (zero_ffn w) firstsF_at.1 (keyOf_string_mk Tryz.underlying9 hx)
 obtain ⟨e1,e2⟩:=dk_at firstsK x
 rw [e2] at h1
 obtain ⟨i,hi,h3,h4⟩:=fnElem_inv h2
 rw [e1] at h4
 simp only [Prod.mk.injEq,DataW.lit.injEq,Lit.int.injEq,true_and] at h4
 have h5:atL firstsK x=i:=by have:=h4.1;omega
 have hv:v=firstV x:=by
  unfold firstV
  rw [h5,h3,List.getD_eq_getElem?_getD,List.getElem?_eq_getElem hi]
  rfl
 rw [<- hv]
 exact h1
theorem first_cases (x:ByteArray):(firstV x=.nilFunc/\firstB x=false/\∀ en,firstM en x=none) \/
 ∃ (f:FuncId) (m:Nat->PM Unit),firstV x=.func (.func f) #[] #[]/\firstB x=true/\(∀ en,firstM en x=some (m en))/\(∀ args w,(callFunc f args).run Tryz.prog w=.ok (.enter f args) w) /\
  ∀ (X:Nat->Prop) (b en:Nat) (S:PS) (w:World),PAt X b en S w->S.s=stmt0->Calls Tryz.prog f #[.pointer (some ⟨b,0,none⟩)] w fun e w'=>StepU X b en w (m en S) e w':=by
 by_cases h1:w_create=x
 · subst h1
   exact Or.inr ⟨38,createM,by kernel_rfl,by kernel_rfl,fun _=>rfl,enters_of Tryz.func38 (by kernel_rfl) rfl,fun X b en S w h hs=>create_any h (by rw [hs];decide)⟩
 by_cases h2:w_rename=x
 · subst h2
   exact Or.inr ⟨39,renameM,by kernel_rfl,by kernel_rfl,fun _=>rfl,enters_of Tryz.func39 (by kernel_rfl) rfl,fun X b en S w h hs=>rename_any h⟩
 by_cases h3:w_insert=x
 · subst h3
   exact Or.inr ⟨40,insertM,by kernel_rfl,by kernel_rfl,fun _=>rfl,enters_of Tryz.func40 (by kernel_rfl) rfl,fun X b en S w h hs=>insert_any h (by rw [hs];decide)⟩
 by_cases h4:w_update=x
 · subst h4
   exact Or.inr ⟨41,updateM,by kernel_rfl,by kernel_rfl,fun _=>rfl,enters_of Tryz.func41 (by kernel_rfl) rfl,fun X b en S w h hs=>update_any h (by rw [hs];decide)⟩
 by_cases h5:w_delete=x
 · subst h5
   exact Or.inr ⟨42,deleteM,by kernel_rfl,by kernel_rfl,fun _=>rfl,enters_of Tryz.func42 (by kernel_rfl) rfl,fun X b en S w h hs=>delete_any h (by rw [hs];decide)⟩
 by_cases h6:w_select=x
 · subst h6
   exact Or.inr ⟨43,selM,by kernel_rfl,by kernel_rfl,fun _=>rfl,enters_of Tryz.func43 (by kernel_rfl) rfl,fun X b en S w h hs=>sel_any h (by rw [hs];decide)⟩
 by_cases h7:w_begin=x
 · subst h7
   exact Or.inr ⟨44,beginM,by kernel_rfl,by kernel_rfl,fun _=>rfl,enters_of Tryz.func44 (by kernel_rfl) rfl,fun X b en S w h hs=>begin_any h (by rw [hs];rfl)⟩
 by_cases h8:w_commit=x
 · subst h8
   exact Or.inr ⟨45,commitM,by kernel_rfl,by kernel_rfl,fun _=>rfl,enters_of Tryz.func45 (by kernel_rfl) rfl,fun X b en S w h hs=>commit_any h⟩
 by_cases h9:w_rollback=x
 · subst h9
   exact Or.inr ⟨46,rollbackM,by kernel_rfl,by kernel_rfl,fun _=>rfl,enters_of Tryz.func46 (by kernel_rfl) rfl,fun X b en S w h hs=>rollback_any h⟩
 by_cases h10:w_checkpoint=x
 · subst h10
   exact Or.inr ⟨47,fun _=>checkM,by kernel_rfl,by kernel_rfl,fun _=>rfl,enters_of Tryz.func47 (by kernel_rfl) rfl,fun X b en S w h hs=>check_any h⟩
 by_cases h11:w_savepoint=x
 · subst h11
   exact Or.inr ⟨48,fun en=>namedM en 11,by kernel_rfl,by kernel_rfl,fun _=>rfl,enters_of Tryz.func48 (by kernel_rfl) rfl,fun X b en S w h hs=>save_any h⟩
 by_cases h12:w_prepare=x
 · subst h12
   exact Or.inr ⟨49,fun en=>namedM en 13,by kernel_rfl,by kernel_rfl,fun _=>rfl,enters_of Tryz.func49 (by kernel_rfl) rfl,fun X b en S w h hs=>prep_any h⟩
 by_cases h13:w_vacuum=x
 · subst h13
   exact Or.inr ⟨50,vacuumM,by kernel_rfl,by kernel_rfl,fun _=>rfl,enters_of Tryz.func50 (by kernel_rfl) rfl,fun X b en S w h hs=>vacuum_any h⟩
 by_cases h14:w_slot=x
 · subst h14
   exact Or.inr ⟨51,slotM,by kernel_rfl,by kernel_rfl,fun _=>rfl,enters_of Tryz.func51 (by kernel_rfl) rfl,fun X b en S w h hs=>slot_any h⟩
 have e1:=decide_eq_false h1
 have e2:=decide_eq_false h2
 have e3:=decide_eq_false h3
 have e4:=decide_eq_false h4
 have e5:=decide_eq_false h5
 have e6:=decide_eq_false h6
 have e7:=decide_eq_false h7
 have e8:=decide_eq_false h8
 have e9:=decide_eq_false h9
 have e10:=decide_eq_false h10
 have e11:=decide_eq_false h11
 have e12:=decide_eq_false h12
 have e13:=decide_eq_false h13
 have e14:=decide_eq_false h14
 refine Or.inl ⟨?_,?_,fun en=>?_⟩
 · unfold firstV atL firstsK
   simp only [List.find?,e1,e2,e3,e4,e5,e6,e7,e8,e9,e10,e11,e12,e13,e14]
   rfl
 · unfold firstB firstsK
   simp only [List.find?,e1,e2,e3,e4,e5,e6,e7,e8,e9,e10,e11,e12,e13,e14]
   rfl
 · unfold firstM
   simp only [List.find?,e1,e2,e3,e4,e5,e6,e7,e8,e9,e10,e11,e12,e13,e14]
   rfl
end
section
open Go.RowKit Go.Maps
def Parse1Post (X:Nat->Prop) (b en:Nat) (l:List Tok) (w:World) (e:Ending) (w':World):Prop :=
 Kept X w w'/\((∃ S',stmtM en l=.ok S'.s/\e=.returned (.tuple #[])/\PAt X b en S' w') \/ ∃ er,stmtM en l=.error er/\e=trouble er)
theorem stmt_none {en:Nat} {l:List Tok} (h:(nowT en ⟨l,stmt0,[]⟩).kind ≠ 1 \/ firstM en (nowT en ⟨l,stmt0,[]⟩).text=none):stmtM en l=.error ((nowT en ⟨l,stmt0,[]⟩).pos,60):=by
 unfold stmtM
 rcases h with h|h
 · simp [h]
 · simp [h]
theorem stmt_err {en:Nat} {l:List Tok} {f:PM Unit} {er:PErr} (h1:(nowT en ⟨l,stmt0,[]⟩).kind=1) (h2:firstM en (nowT en ⟨l,stmt0,[]⟩).text=some f) (h3:f ⟨l.tail,stmt0,[]⟩=.error er):stmtM en l=.error er:=by
 unfold stmtM
 simp only [h1,h2,h3,beq_self_eq_true,if_true]
theorem stmt_ok {en:Nat} {l:List Tok} {f:PM Unit} {S':PS} (h1:(nowT en ⟨l,stmt0,[]⟩).kind=1) (h2:firstM en (nowT en ⟨l,stmt0,[]⟩).text=some f) (h3:f ⟨l.tail,stmt0,[]⟩=.ok ((),S')) :
 stmtM en l=if S'.l.isEmpty=true then .ok S'.s else .error ((nowT en S').pos,60):=by
 unfold stmtM
 simp only [h1,h2,h3,beq_self_eq_true,if_true]
theorem parse1_any {X:Nat->Prop} {b en qp:Nat} {l:List Tok} {w:World} (h:PAt X b en ⟨l,stmt0,[]⟩ w) (hq:w.heap[qp]? = some (.cells #[.pointer (some ⟨b,0,none⟩)] 63 (0,0))) (hx:X qp) :
 Calls Tryz.prog 16 #[.pointer (some ⟨qp,0,none⟩)] w fun e w'=>Parse1Post X b en l w e w':=by
 obtain ⟨Pst,hPst⟩:∃ Pst,Pst=Parse1Post X b en l w:=⟨_,rfl⟩
 have HPST:=hid hPst
 rw [<- hPst]
 obtain ⟨S,hS⟩:∃ S:PS,S=⟨l,stmt0,[]⟩:=⟨_,rfl⟩
 rw [<- hS] at h
 have HS:=hid hS
 have NB:=hid (show ¬ X b from h.nb)
 have QB:=hid (show ∀ w',Kept X w w'->w'.heap[qp]? = some (.cells #[.pointer (some ⟨b,0,none⟩)] 63 (0,0)) from fun w' k=>(k.block _ hx (jB hq)).trans hq)
 have NQ:=hid (show qp ≠ b from fun e=>h.nb (e ▸ hx))
 have k0:=jC hq 0
 simp only [List.getElem?_toArray,List.getElem?_cons_zero] at k0
 have P1:=hid h
 have con:=now_any h
 obtain ⟨hsz,_,_⟩:=now_ok h
 obtain ⟨t,ht⟩:∃ t,t=nowT en S:=⟨_,rfl⟩
 have HT:=hid ht
 rw [<- ht] at con hsz
 obtain ⟨tk,tp,tt,tn⟩:=t
 simp only [Tok.enc] at con
 simp only at hsz
 clear h hPst hS hq ht
 go_enter Tryz.func16,Tryz.ntmps16
 go_wp2_with fail
 refine con.mono ?_
 rintro e w2 ⟨rfl,hb⟩
 obtain ⟨w3,hw3⟩:∃ W,w2.alloc (.cells #[.int .i64 tk,.int .i64 tp,.string tt,.int .i64 tn] 56)=W:=⟨_,rfl⟩
 have b3:Below w.heap.size w w3:=by rw [<- hw3];exact hb.trans (((b0R).alloc (jR _) _).mono hb.size)
 have hqt:w3.heap[w2.heap.size]? = some (.cells #[.int .i64 tk,.int .i64 tp,.string tt,.int .i64 tn] 56 (0,0)):=by rw [<- hw3];exact heap_alloc_new _ _
 have QT:=hid hqt
 have HK3:=hid (Below.kept b3 X)
 have P3:=hid (P1.out.below b3)
 clear hb b3 hqt con k0
 go_upto_region 1 with (fail)
 clear hw3
 apply wp_region_grow [7,8,9,10,6,11,12,2]
  [fun _ u w'=>FirstsAt u w',
   fun _ u _=>u=.pointer (some ⟨w2.heap.size,2,none⟩),
   fun _ u _=>u=.string tt,
   fun _ u _=>u=.tuple #[firstV tt,.bool (firstB tt)],
   fun _ u _=>u=.tuple #[firstV tt,.bool (firstB tt)],
   fun _ u _=>u=firstV tt,
   fun _ u _=>u=.bool (firstB tt),
   fun _ u _=>u=firstV tt]
  (Below w3.heap.size w3)
 case hF =>
  intro v
  simp only [setAll,List.foldl_cons,List.foldl_nil,Act.put,List.setIfInBounds_toArray,List.set_cons_succ,List.set_cons_zero]
  exact rfl
 case hm=>kernel_rfl
 case hB=>kernel_rfl
 case hsz=>kernel_rfl
 case hC=>exact fun w1 w2 h b=>h.trans (b.mono h.size)
 case hw=>exact Below.drew b0R
 case hS =>
  intro D hD v u
  simp only [List.mem_cons,List.not_mem_nil,or_false] at hD
  rcases hD with rfl|rfl|rfl|rfl|rfl|rfl|rfl|rfl
  · exact fun w1 w2 h hb=>h.below hb
  all_goals exact fun w1 w2 h _=>h
 case hob =>
  apply grow_cons
  · intro v w1 h1 hd
    have con:=firsts_any w1
    clear hd h1
    go_wp2_with fail
    refine con.mono ?_
    rintro e w5 ⟨g,rfl,hb,ho⟩
    have HB:=hid hb
    have HO:=hid (show FirstsAt (.map (some g)) w5 from ⟨g,rfl,ho⟩)
    clear con hb ho
    go_wp2_with fail
    first|exact ⟨HB.out,HO.out⟩|exact ⟨HO.out,HB.out⟩
  apply grow_cons
  · intro v w1 h1 hd
    clear hd h1
    go_wp2_with fail
    first|exact Below.refl _ _|exact ⟨Below.refl _ _,rfl⟩|exact ⟨rfl,Below.refl _ _⟩
  apply grow_cons
  · intro v w1 h1 hd
    have g8:v 8=.pointer (some ⟨w2.heap.size,2,none⟩):=hd 1 _ _ _ rfl rfl rfl rfl
    have ct:=jC ((h1.block _ (jB QT.out)).trans QT.out) 2
    simp only [gT,gZ,gS] at ct
    clear hd
    rw [g8]
    clear g8 h1
    go_wp2_with fail
    first|exact Below.refl _ _|exact ⟨Below.refl _ _,rfl⟩|exact ⟨rfl,Below.refl _ _⟩
  apply grow_cons
  · intro v w1 h1 hd
    obtain ⟨g,g7,hg⟩:FirstsAt (v 7) w1:=hd 0 _ _ _ rfl rfl rfl rfl
    have g9:v 9=.string tt:=hd 2 _ _ _ rfl rfl rfl rfl
    have hrun:=firsts_run tt (by unfold maxLen;omega) w1 g hg
    clear hd
    rw [g7,g9]
    clear g7 g9 h1 hg
    go_wp2_with fail
    first|exact Below.refl _ _|exact ⟨Below.refl _ _,rfl⟩|exact ⟨rfl,Below.refl _ _⟩
  apply grow_cons
  · intro v w1 h1 hd
    have g:v 10=.tuple #[firstV tt,.bool (firstB tt)]:=hd 3 _ _ _ rfl rfl rfl rfl
    clear hd
    rw [g]
    clear g h1
    go_wp2_with fail
    first|exact Below.refl _ _|exact ⟨Below.refl _ _,rfl⟩|exact ⟨rfl,Below.refl _ _⟩
  apply grow_cons
  · intro v w1 h1 hd
    have g:v 6=.tuple #[firstV tt,.bool (firstB tt)]:=hd 4 _ _ _ rfl rfl rfl rfl
    clear hd
    rw [g]
    clear g h1
    go_wp2_with fail
    first|exact Below.refl _ _|exact ⟨Below.refl _ _,rfl⟩|exact ⟨rfl,Below.refl _ _⟩
  apply grow_cons
  · intro v w1 h1 hd
    have g:v 6=.tuple #[firstV tt,.bool (firstB tt)]:=hd 4 _ _ _ rfl rfl rfl rfl
    clear hd
    rw [g]
    clear g h1
    go_wp2_with fail
    first|exact Below.refl _ _|exact ⟨Below.refl _ _,rfl⟩|exact ⟨rfl,Below.refl _ _⟩
  apply grow_cons
  · intro v w1 h1 hd
    have g:v 11=firstV tt:=hd 5 _ _ _ rfl rfl rfl rfl
    clear hd
    rw [g]
    clear g h1
    go_wp2_with fail
    first|exact Below.refl _ _|exact ⟨Below.refl _ _,rfl⟩|exact ⟨rfl,Below.refl _ _⟩
  exact grow_nil
 case hend =>
  intro v w4 h1 hd o ho
  obtain rfl:=jI (ho:some _=some o)
  have g12:v 12=.bool (firstB tt):=hd 6 _ _ _ rfl rfl rfl
  have g2:v 2=firstV tt:=hd 7 _ _ _ rfl rfl rfl
  rw [g12,g2]
  have HK4:=hid (HK3.out.trans (Below.kept h1 X))
  have P4:=hid (P3.out.below h1)
  have hqt:=(h1.block _ (jB QT.out)).trans QT.out
  have t0:=jC hqt 0
  have t1:=jC hqt 1
  simp only [gT,gZ,gS] at t0 t1
  clear hd ho g12 g2 h1 hqt
  generalize v 7=y7,v 8=y8,v 9=y9,v 10=y10,v 6=y6,v 11=y11
  have HTL:=hid (show nowT en ⟨l,stmt0,[]⟩=⟨tk,tp,tt,tn⟩ by rw [<- HS.out];exact HT.out.symm)
  rcases first_cases tt with ⟨hv,hb,hm⟩|⟨f,m,hv,hb,hm,hen,hf⟩
  · rw [hv,hb]
    have HR:=hid (show stmtM en l=.error (tp,60) by
     have:=stmt_none (en:=en) (l:=l) (Or.inr (by rw [HTL.out];exact hm en))
     rw [HTL.out] at this
     exact this)
    clear hv hb hm
    by_cases h1:tk=1
    · subst h1
      have con:=fail_any tp 60 w4
      go_wp2_with fail
      refine con.mono ?_
      rintro e w5 ⟨rfl,rfl⟩
      go_wp2_with fail
      refine ⟨rfl,?_⟩
      rw [HPST.out]
      exact ⟨HK4.out,Or.inr ⟨_,HR.out,rfl⟩⟩
    · have e1:(tk == 1)=false:=by simpa using h1
      have con:=fail_any tp 60 w4
      go_wp2_with fail
      refine con.mono ?_
      rintro e w5 ⟨rfl,rfl⟩
      go_wp2_with fail
      refine ⟨rfl,?_⟩
      rw [HPST.out]
      exact ⟨HK4.out,Or.inr ⟨_,HR.out,rfl⟩⟩
  · rw [hv,hb]
    by_cases h1:tk=1
    case neg =>
     have e1:(tk == 1)=false:=by simpa using h1
     have HR:=hid (show stmtM en l=.error (tp,60) by
      have:=stmt_none (en:=en) (l:=l) (Or.inl (by rw [HTL.out];exact h1))
      rw [HTL.out] at this
      exact this)
     clear hv hb hm hen hf
     have con:=fail_any tp 60 w4
     go_wp2_with fail
     refine con.mono ?_
     rintro e w5 ⟨rfl,rfl⟩
     go_wp2_with fail
     refine ⟨rfl,?_⟩
     rw [HPST.out]
     exact ⟨HK4.out,Or.inr ⟨_,HR.out,rfl⟩⟩
    subst h1
    have HF:=hid hf
    have HM:=hid (hm en)
    have hlen:=now_len (en:=en) (S:=S) (by rw [<- HT.out];show (1:Int) ≠ 0;decide)
    obtain ⟨a,n,c,a',k0,hfz,hn1,hnc,hns,hsl,hfin⟩:=P4.out.one' hlen
    have HTJ:=hid (show TJ b qp 0 (.slice a n c) w4 from ⟨QB.out _ HK4.out,k0,hfz⟩)
    have FIN:=hid hfin
    clear k0 hfz hfin hlen hv hb hm hf
    go_upto_region 4 with (fail)
    clear t0 t1
    refine wp_region_loose2 [([0,1,2,3,4,5,6,7],8)] (TJ b qp 0 (.slice a n c)) (Below w4.heap.size w4) (by kernel_rfl) (by kernel_rfl) (by kernel_rfl) (fun w1 w2 h b=>h.trans (b.mono h.size)) (Below.drew b0R) ?_
    apply wpSegs_cons (TJ b qp 0 (.slice a n c)) (fun _=>NT X b en { S with l:=S.l.tail } w4) (fun _ h=>h) (fun w' h=>HTJ.out.below h)
    case hq =>
     intro z1 hz1
     have ne:Nonempty (Wld (Below z1.heap.size z1)):=⟨⟨z1,Below.refl _ _⟩⟩
     have c0:=fun x:Wld (Below z1.heap.size z1)=>jC (hz1.below x.good).1 0
     have c1:=fun x:Wld (Below z1.heap.size z1)=>(hz1.below x.good).2.1
     simp only [List.getElem?_toArray,List.getElem?_cons_zero] at c0
     simp only [pickOps,List.getElem?_cons_zero,List.getElem?_cons_succ]
     apply quiet_hide
     intro KE hKE
     repeat (go_big_quiet_step (fail))
     refine wpQuiet_nil ?_
     exact hKE _ rfl
    case ho=>rfl
    case hop=>rfl
    case hw=>kernel_rfl
    case hD=>exact fun u w1 w2 h hb=>⟨h.1.below hb,h.2.trans (turn_below h.1.lt_box hb)⟩
    case hDJ=>exact fun h=>absurd rfl h
    case hlo =>
     intro wa ba
     have hj:=HTJ.out.below ba
     have c1:=hj.2.1
     have f1:=hj.2.2
     have BA:=hid ba
     clear hj ba
     go_wp2_with fail
     exact FIN.out wa BA.out
    case hrest =>
     rintro u9 w9x h9x
     refine wpSegs_nil fun w5 h5=>?_
     have P5:=hid h5.1
     have HK5:=hid (HK4.out.leaf h5.2.g NB.out)
     have con:=HF.out X b en { S with l:=S.l.tail } w5 h5.1 (show S.s=stmt0 by rw [HS.out])
     have kp:=jC (QB.out _ HK5.out) 0
     simp only [List.getElem?_toArray,List.getElem?_cons_zero] at kp
     clear h5 h9x hsl hn1 hnc hns
     go_wp2_with fail
     refine con.mono ?_
     rintro e w6 ⟨g,h⟩
     have HK6:=hid (HK5.out.trans g)
     clear con g kp
     obtain ⟨S6,h6,rfl,p6⟩|⟨er,h6,rfl⟩:=h
     case inr =>
      have HR:=hid (show stmtM en l=.error er from stmt_err (by rw [HTL.out]) (by rw [HTL.out];exact HM.out) (by rw [<- h6,HS.out]))
      clear h6
      go_wp2_with fail
      refine ⟨rfl,?_⟩
      rw [HPST.out]
      exact ⟨HK6.out,Or.inr ⟨er,HR.out,rfl⟩⟩
     have HE:=hid (show stmtM en l=_ from stmt_ok (by rw [HTL.out]) (by rw [HTL.out];exact HM.out) (show m en ⟨l.tail,stmt0,[]⟩=.ok ((),S6) by rw [<- h6,HS.out]))
     have P6:=hid p6
     have kp:=jC (QB.out _ HK6.out) 0
     obtain ⟨a6,c6,L6,hbx,_,_⟩:=p6.open
     have z0:=jC hbx 0
     simp only [boxC,List.getElem?_toArray,List.getElem?_cons_zero] at kp z0
     clear h6 p6 hbx
     cases hl:S6.l with
     | nil =>
      have HR:=hid (show stmtM en l=.ok S6.s by rw [HE.out,hl];rfl)
      rw [hl] at z0
      simp only [List.length_nil] at z0
      clear hl
      go_wp2_with fail
      go_end0
      rw [HPST.out]
      exact ⟨HK6.out,Or.inl ⟨S6,HR.out,rfl,P6.out⟩⟩
     | cons x r =>
      have HR:=hid (show stmtM en l=.error ((nowT en S6).pos,60) by rw [HE.out,hl];rfl)
      obtain ⟨nl,hnl⟩:∃ k,k=S6.l.length:=⟨_,rfl⟩
      have hn0:0<nl:=by rw [hnl,hl];simp
      have hn1:(0:Int)<(nl:Int):=by omega
      rw [<- hnl] at z0
      clear hl hnl
      have con:=now_any P6.out
      obtain ⟨t6,ht6⟩:∃ t,t=nowT en S6:=⟨_,rfl⟩
      rw [<- ht6] at con HR
      clear ht6
      obtain ⟨xk,xp,xt,xn⟩:=t6
      simp only [Tok.enc] at con HR
      go_wp2_with fail
      refine con.mono ?_
      rintro e w7 ⟨rfl,hb7⟩
      have hfd:=field_pos xk xp xt xn w7
      have HK7:=hid (HK6.out.trans (Below.kept hb7 X))
      have con:=fail_any xp 60 w7
      clear hb7
      go_wp2_with fail
      refine con.mono ?_
      rintro e w8 ⟨rfl,rfl⟩
      go_wp2_with fail
      refine ⟨rfl,?_⟩
      rw [HPST.out]
      exact ⟨HK7.out,Or.inr ⟨_,HR.out,rfl⟩⟩
end
end Go.Proofs.YtjcpccadmcglgaaGreatDoor
