/- Insertion from the right is the stable sort, plain. -/
import Derived.Test.YtgemihkcihigpaaGreatDoorZB31
import Derived.Test.YtgemihkcihigpaaGreatDoorZD5
import Derived.Test.YtgemihkcihigpaaGreatDoorZD6
set_option linter.unusedVariables false
set_option linter.unusedSimpArgs false
namespace Go.Proofs.YtgemihkcihigpaaGreatDoor
section
open Go Go.RowKit Go.Sort
def insRev {α : Type} (f : α -> α -> Int) (x : α) : List α -> List α
 | [] => [x]
 | y :: R => if f x y < 0 then y :: insRev f x R else x :: y :: R
def insAll {α : Type} (f : α -> α -> Int) (R L : List α) : List α := L.foldl (fun R x => insRev f x R) R
theorem insRev_map {α β : Type} (f : β -> β -> Int) (g : α -> β) (x : α) : ∀ R : List α, (insRev (fun a b => f (g a) (g b)) x R).map g = insRev f (g x) (R.map g)
 | [] => rfl
 | y :: R => by
  show (if f (g x) (g y) < 0 then y :: insRev (fun a b => f (g a) (g b)) x R else x :: y :: R).map g = if f (g x) (g y) < 0 then g y :: insRev f (g x) (R.map g) else g x :: g y :: R.map g
  by_cases h : f (g x) (g y) < 0
  · rw [if_pos h, if_pos h, List.map_cons, insRev_map f g x R]
  · rw [if_neg h, if_neg h]; rfl
theorem insAll_map {α β : Type} (f : β -> β -> Int) (g : α -> β) : ∀ (L R : List α), (insAll (fun a b => f (g a) (g b)) R L).map g = insAll f (R.map g) (L.map g)
 | [], _ => rfl
 | x :: L, R => by
  show (insAll _ (insRev _ x R) L).map g = insAll f (insRev f (g x) (R.map g)) (L.map g)
  rw [insAll_map f g L, insRev_map]
theorem insRev_perm {α : Type} (f : α -> α -> Int) (x : α) : ∀ R : List α, (insRev f x R).Perm (x :: R)
 | [] => List.Perm.refl _
 | y :: R => by
  unfold insRev
  split
  · exact ((insRev_perm f x R).cons y).trans (List.Perm.swap x y R)
  · exact List.Perm.refl _
theorem insAll_perm {α : Type} (f : α -> α -> Int) : ∀ (L R : List α), (insAll f R L).Perm (L ++ R)
 | [], R => List.Perm.refl _
 | x :: L, R => by
  refine (insAll_perm f L (insRev f x R)).trans ?_
  refine ((insRev_perm f x R).append_left L).trans ?_
  exact List.perm_middle
def TagOk {α : Type} (f : α -> α -> Int) (a b : α × Nat) : Prop := ltT (fun a b : α × Nat => decide (f a.1 b.1 < 0)) (·.2) a b = false
theorem tag_iff {α : Type} {f : α -> α -> Int} {a b : α × Nat} : TagOk f a b ↔ ¬ f a.1 b.1 < 0 /\ (f b.1 a.1 < 0 \/ ¬ a.2 < b.2) := by
 unfold TagOk ltT
 by_cases h1 : f a.1 b.1 < 0 <;> by_cases h2 : f b.1 a.1 < 0 <;> by_cases h3 : a.2 < b.2 <;> simp [h1, h2, h3]
theorem insRev_ok {α : Type} {f : α -> α -> Int} (hf : Tot f) (x : α × Nat) : ∀ R : List (α × Nat), (∀ y ∈ R, y.2 < x.2) -> R.Pairwise (TagOk f) -> (insRev (fun a b : α × Nat => f a.1 b.1) x R).Pairwise (TagOk f)
 | [], _, _ => List.pairwise_singleton _ _
 | y :: R, ht, hp => by
  obtain ⟨h1, h2⟩ := List.pairwise_cons.1 hp
  unfold insRev
  by_cases h : f x.1 y.1 < 0
  · rw [if_pos h]
    refine List.pairwise_cons.2 ⟨fun z hz => ?_, insRev_ok hf x R (fun z hz => ht z (List.mem_cons_of_mem _ hz)) h2⟩
    rcases List.mem_cons.1 ((insRev_perm _ x R).mem_iff.1 hz) with rfl | hz
    · exact tag_iff.2 ⟨by have := hf.anti z.1 y.1; omega, Or.inl h⟩
    · exact h1 z hz
  · rw [if_neg h]
    refine List.pairwise_cons.2 ⟨fun z hz => ?_, hp⟩
    have htz := ht z hz
    refine tag_iff.2 ⟨?_, Or.inr (by omega)⟩
    rcases List.mem_cons.1 hz with rfl | hz
    · exact h
    · have h3 := (tag_iff.1 (h1 z hz)).1
      have a1 := hf.anti y.1 z.1
      have a2 := hf.anti x.1 y.1
      have a3 := hf.anti y.1 x.1
      have a4 := hf.anti z.1 y.1
      have a5 := hf.anti x.1 z.1
      have t := hf.trans z.1 y.1 x.1 (by omega) (by omega)
      have a6 := hf.anti z.1 x.1
      omega
theorem insAll_ok {α : Type} {f : α -> α -> Int} (hf : Tot f) : ∀ (L : List α) (n : Nat) (R : List (α × Nat)), (∀ y ∈ R, y.2 < n) -> R.Pairwise (TagOk f) -> (insAll (fun a b : α × Nat => f a.1 b.1) R (L.zipIdx n)).Pairwise (TagOk f)
 | [], _, _, _, hp => hp
 | x :: L, n, R, ht, hp => by
  rw [List.zipIdx_cons]
  show (insAll _ (insRev _ (x, n) R) (L.zipIdx (n + 1))).Pairwise (TagOk f)
  refine insAll_ok hf L (n + 1) _ (fun y hy => ?_) (insRev_ok hf (x, n) R ht hp)
  rcases List.mem_cons.1 ((insRev_perm _ _ R).mem_iff.1 hy) with rfl | hy
  · exact Nat.lt_succ_self _
  · have := ht y hy; omega
theorem ins_sort {α : Type} {f : α -> α -> Int} (hf : Tot f) (L : List α) : (insAll f [] L).reverse = sortBy f L := by
 refine stab_eq hf ⟨(insAll (fun a b : α × Nat => f a.1 b.1) [] L.zipIdx).reverse, ?_, ?_, ?_⟩
 · rw [List.map_reverse, insAll_map f (·.1) L.zipIdx []]
   rw [List.zipIdx_map_fst]
   rfl
 · refine (List.reverse_perm _).trans ((insAll_perm _ _ _).trans ?_)
   rw [List.append_nil]
 · rw [List.pairwise_reverse]
   exact insAll_ok hf L 0 [] (fun y hy => absurd hy List.not_mem_nil) List.Pairwise.nil
end
open Go.Lib (hid)
section
open Go.RowKit Go.Sort
theorem ins_step {α : Type} {f : α -> α -> Int} {x : α} {S : List α} {k : Nat} (hk : k < S.length) (h : f x S[k] < 0) :
 (insRev f x (S.take (k + 1)).reverse).reverse ++ S.drop (k + 1) = (insRev f x (S.take k).reverse).reverse ++ S.drop k := by
 rw [List.take_succ_eq_append_getElem hk, List.reverse_append, List.reverse_cons, List.reverse_nil, List.nil_append, List.singleton_append]
 rw [show insRev f x (S[k] :: (S.take k).reverse) = S[k] :: insRev f x (S.take k).reverse from if_pos h]
 rw [List.reverse_cons, List.append_assoc, List.singleton_append, <- List.drop_eq_getElem_cons hk]
theorem ins_end {α : Type} {f : α -> α -> Int} {x : α} {S : List α} {k : Nat} (hk : k < S.length) (h : ¬ f x S[k] < 0) :
 (insRev f x (S.take (k + 1)).reverse).reverse ++ S.drop (k + 1) = S.take (k + 1) ++ x :: S.drop (k + 1) := by
 have e : (S.take (k + 1)).reverse = S[k] :: (S.take k).reverse := by
  rw [List.take_succ_eq_append_getElem hk, List.reverse_append, List.reverse_cons, List.reverse_nil, List.nil_append, List.singleton_append]
 have e2 : insRev f x (S.take (k + 1)).reverse = x :: (S.take (k + 1)).reverse := by
  rw [e]
  exact if_neg h
 rw [e2, List.reverse_cons, List.reverse_reverse, List.append_assoc, List.singleton_append]
def srt {α : Type} (f : α -> α -> Int) (L : List α) (i : Nat) : List α := (insAll f [] (L.take i)).reverse
theorem srt_len {α : Type} {f : α -> α -> Int} {L : List α} {i : Nat} (hi : i <= L.length) : (srt f L i).length = i := by
 unfold srt
 rw [List.length_reverse, (insAll_perm f _ []).length_eq, List.append_nil, List.length_take]
 omega
theorem srt_succ {α : Type} {f : α -> α -> Int} {L : List α} {i : Nat} (hi : i < L.length) : srt f L (i + 1) = (insRev f L[i] (srt f L i).reverse).reverse := by
 unfold srt
 rw [List.reverse_reverse, List.take_succ_eq_append_getElem hi]
 unfold insAll
 rw [List.foldl_append]
 rfl
theorem srt_mem {α : Type} {f : α -> α -> Int} {L : List α} {i : Nat} {x : α} (h : x ∈ srt f L i) : x ∈ L := by
 unfold srt at h
 rw [List.mem_reverse, (insAll_perm f _ []).mem_iff, List.append_nil] at h
 exact List.mem_of_mem_take h
def insAt {α : Type} (S : List α) (x : α) (k : Nat) : List α := S.take k ++ x :: S.drop k
theorem insAt_len {α : Type} {S : List α} {x : α} {k : Nat} (hk : k <= S.length) : (insAt S x k).length = S.length + 1 := by
 unfold insAt
 rw [List.length_append, List.length_cons, List.length_take, List.length_drop]
 omega
theorem insAt_get {α : Type} {S : List α} {x : α} {k : Nat} (hk : k <= S.length) (h : k < (insAt S x k).length) : (insAt S x k)[k] = x := by
 have e : (S.take k).length = k := by rw [List.length_take]; omega
 refine (List.getElem_eq_iff h).2 ?_
 unfold insAt
 rw [List.getElem?_append_right (by omega), e]
 simp
theorem insAt_pre {α : Type} {S : List α} {x : α} {k : Nat} (hk : k < S.length) (h : k < (insAt S x (k + 1)).length) : (insAt S x (k + 1))[k] = S[k] := by
 refine (List.getElem_eq_iff h).2 ?_
 unfold insAt
 rw [List.getElem?_append_left (by rw [List.length_take]; omega), List.getElem?_take_of_lt (Nat.lt_succ_self k), List.getElem?_eq_getElem hk]
theorem insAt_swap {α : Type} {S : List α} {x : α} {k : Nat} (hk : k < S.length) : ((insAt S x (k + 1)).set (k + 1) S[k]).set k x = insAt S x k := by
 unfold insAt
 have e : (S.take k).length = k := by rw [List.length_take]; omega
 rw [List.take_succ_eq_append_getElem hk, List.drop_eq_getElem_cons hk, List.append_assoc, List.singleton_append]
 rw [List.set_append_right _ _ (by omega), List.set_append_right _ _ (by omega), e]
 simp
theorem owns_new (w : World) (e : TypeId) (sz : Nat) : (w.alloc (.cells #[] e)).ownsRow w.heap.size e sz (.slice (some ⟨w.heap.size, 0, none⟩) 0 0) 0 [] :=
 ⟨by simp, Or.inr ⟨w.heap.size, 0, #[], rfl, Nat.le_refl _, heap_alloc_new _ _, Nat.le_refl _, Nat.zero_le _, by simp, by simp⟩⟩
theorem copies_swap {B g n c j k : Nat} {M : List (List Val)} {outs : List Value} {w : World} (ho : w.ownsRow B 35 1 (.slice (some ⟨g, 0, none⟩) n c) n outs) (hc : Copies B M n outs w) (hn : M.length = n) (hj : j < n) (hk : k < n) (u v : Value) (x y : List Val)
 (hu : w.ownsRow B 55 3 u x.length (x.flatMap valEnc)) (hv : w.ownsRow B 55 3 v y.length (y.flatMap valEnc)) :
 ((w.setCell ⟨g, j, none⟩ u).setCell ⟨g, k, none⟩ v).ownsRow B 35 1 (.slice (some ⟨g, 0, none⟩) n c) n ((outs.set j u).set k v) /\ Copies B ((M.set j x).set k y) n ((outs.set j u).set k v) ((w.setCell ⟨g, j, none⟩ u).setCell ⟨g, k, none⟩ v) := by
 have h1 := (World.ownsRow.stored ho j u).1
 have h2 := (World.ownsRow.stored h1 k v).1
 have g1 := grown_cell w ⟨g, j, none⟩ u
 have g2 := grown_cell (w.setCell ⟨g, j, none⟩ u) ⟨g, k, none⟩ v
 have t1 := own_tag ho
 have t2 := own_tag h1
 have kp : ∀ {z : Value} {m : Nat} {xs : List Value}, w.ownsRow B 55 3 z m xs -> ((w.setCell ⟨g, j, none⟩ u).setCell ⟨g, k, none⟩ v).ownsRow B 55 3 z m xs := fun h =>
  keeps_owns (B' := B) (T := 35) (by decide) _ _ (some g) (keeps_owns (B' := B) (T := 35) (by decide) w _ (some g) h t1 g1) t2 g2
 refine ⟨h2, by simp [hc.1], fun t h3 h4 => ?_⟩
 have hlt : t < n := by simpa [hn] using h4
 by_cases e2 : k = t
 · subst e2
   simp only [List.getElem_set_self]
   exact kp hv
 · by_cases e1 : j = t
   · subst e1
     simp only [List.getElem_set_ne e2, List.getElem_set_self]
     exact kp hu
   · simp only [List.getElem_set_ne e2, List.getElem_set_ne e1]
     exact kp (hc.2 t (by rw [hc.1]; exact hlt) (by rw [hn]; exact hlt))
theorem own_block {w : World} {B g n c : Nat} {e : TypeId} {xs : List Value} (h : w.ownsRow B e 1 (.slice (some ⟨g, 0, none⟩) n c) n xs) : B <= g /\ ∃ cur, w.heap[g]? = some (.cells cur e (0, 0)) := by
 rcases h.2 with ⟨e1, _⟩ | ⟨g', cap, cur, e1, hB, hg, _⟩
 · cases e1
 · simp only [Value.slice.injEq, Option.some.injEq, Addr.mk.injEq, and_true, true_and] at e1
   obtain ⟨rfl, _⟩ := e1
   exact ⟨hB, cur, hg⟩
theorem own_form {w : World} {B n sz : Nat} {e : TypeId} {v : Value} {xs : List Value} (h : w.ownsRow B e sz v (n + 1) xs) : ∃ g cap, v = .slice (some ⟨g, 0, none⟩) (n + 1) cap := by
 rcases h.2 with ⟨_, e1⟩ | ⟨g, cap, _, e1, _⟩
 · cases e1
 · exact ⟨g, cap, e1⟩
theorem info_rowV : (Tryz.prog.info? 55).map (fun i => (i.zero, i.size, i.bytes)) = some (some (.agg #[.int .i64 0, .int .i64 0, .string ⟨#[]⟩]), 3, 32) := by kernel_rfl
theorem info_rowL : (Tryz.prog.info? 35).map (fun i => (i.zero, i.size, i.bytes)) = some (some (.slice none 0 0), 1, 24) := by kernel_rfl
set_option maxRecDepth 100000 in
set_option maxHeartbeats 8000000 in
theorem rsorted_any {p r : Nat -> Prop} {a ay : Option Addr} {c cy : Nat} {L : List (List Val)} {N : List Int} {w : World} (h : SlV rowR p w (.slice a L.length c) L) (hN : SlV intR r w (.slice ay N.length cy) N) (hL : L.length <= 1000000) (hl : ∀ x ∈ L, x.length <= 1000000) (hs : FineL L) :
 Calls Tryz.prog 28 #[.slice a L.length c, .slice ay N.length cy] w fun e w' => ∃ sa sc, e = .returned (.slice sa L.length sc) /\ Below w.heap.size w w' /\ SlV rowR (fun k => w.heap.size <= k) w' (.slice sa L.length sc) (sortBy (fun A B => cmpBy A B N) L) := by
 obtain ⟨i0, hi0, hz0, hz1, hz2⟩ := info_parts info_rowV
 obtain ⟨i1, hi1, hy0, hy1, hy2⟩ := info_parts info_rowL
 obtain ⟨f, hf⟩ : ∃ f : List Val -> List Val -> Int, (fun A B => cmpBy A B N) = f := ⟨_, rfl⟩
 have hff : ∀ A B, cmpBy A B N = f A B := fun A B => by rw [<- hf]
 have HT := hid (show Tot f by rw [<- hf]; exact tot_cmpBy N)
 rw [hf]
 have HFF := hid hff
 have H := hid h
 have HN := hid hN
 have HL := hid hl
 have HS := hid hs
 clear h hN hs hl hf hff
 go_enter Tryz.func28, Tryz.ntmps28
 go_upto_region 2 with (fail)
 generalize hX : World.alloc _ _ = W1
 have o1 : W1.ownsRow w.heap.size 35 1 (.slice (some ⟨w.heap.size, 0, none⟩) 0 0) 0 [] := by rw [<- hX]; exact owns_new w 35 1
 have b1 : Below w.heap.size w W1 := by rw [<- hX]; exact (b0R).alloc (Nat.le_refl _) _
 have O1 := hid (show OneAt w.heap.size w 35 1 (.slice (some ⟨w.heap.size, 0, none⟩) 0 0) 0 [] W1 from ⟨o1, b1⟩)
 clear hX o1 b1
 go_wp2_with fail
 go_loopw [5, 6] (fun x5 x6 wr => ∃ (i : Nat) (v : Value) (outs : List Value), i <= L.length /\ x6 = .int .i64 i /\ v = x5 /\ Hid (OneAt w.heap.size w 35 1 v i outs wr /\ Copies w.heap.size (srt f L i) i outs wr)) (fun _ x6 _ => L.length - (intOf x6).toNat)
 case atStart => exact ⟨0, _, [], Nat.zero_le _, rfl, rfl, O1.out, rfl, fun t h => by cases h⟩
 case round =>
  obtain ⟨i, v, outs, hi, rfl, rfl, HO⟩ := hrel
  by_cases hlt : i < L.length
  · have hw := H.out.below HO.out.1.b
    obtain ⟨bb, oo, rfl, _, hbb⟩ := hw.row.2.2.2.addr (by intro e; rw [e] at hlt; cases hlt)
    obtain ⟨ra, rc, c0, hr⟩ := hw.row.2.2.2.lst i hlt
    obtain ⟨X, hX⟩ : ∃ X, L[i] = X := ⟨_, rfl⟩
    rw [hX] at c0 hr
    have hXl : X.length <= 1000000 := by rw [<- hX]; exact HL.out _ (List.getElem_mem hlt)
    have HX := hid hX
    have HR := hid hr
    have hBs := HO.out.1.b.size
    clear hX hr hw
    go_upto_block 1 with (fail)
    go_upto_region 5 with (fail)
    have R1 := hid (HR.out.below (w' := wr.alloc (.cells #[] 55)) ((b0R).alloc (Nat.le_refl _) _))
    go_cut [5] from 14 to 24 (fun x5 wx => ∃ (g cap : Nat) (os : List Value), x5 = .slice (some ⟨g, 0, none⟩) (i + 1) cap /\ Hid (OneAt w.heap.size w 35 1 (.slice (some ⟨g, 0, none⟩) (i + 1) cap) (i + 1) os wx /\ Copies w.heap.size (srt f L i ++ [X]) (i + 1) os wx))
    case first =>
     go_wp2_with (at_builtin; first | (refine wpList_append_flat' rfl _ _ 35 rfl wr.heap.size 55 i0 _ 3 32 Tryz.underlying35 hi0 hz0 hz1 hz2 rfl (by decide) _ 0 [] rfl (owns_new wr 55 3) X ra rc rfl R1.out.row.2.2.2 (val_cells X) (by unfold maxLen; omega) (by omega) (by simp) ?_; intro v1 w3 o1 g1; obtain ⟨ua, uc, rfl, _⟩ := owns_shape' o1; have B3 := hid (((Below.refl wr.heap.size wr).alloc (Nat.le_refl _) (.cells #[] 55)).grown g1 (by simp) (fun k hk => by cases hk; exact Nat.le_refl _)); have O3 := hid (HO.out.1.below B3.out hBs); have U3 := hid (owns_base o1 hBs); clear o1 g1) | (refine wpList_append_own_at _ rfl _ _ 41 rfl w.heap.size 35 i1 _ 1 24 Tryz.underlying41 hi1 hy0 hy1 hy2 rfl (by decide) v i _ rfl (O3.out.m.alloc _) ⟨w3.heap.size, 0, none⟩ 1 1 [_] rfl rfl (fun j u hj => by rw [addr_add, cells_of (heap_alloc_new _ _)]; simpa using hj) (fun u hu => by rw [List.mem_singleton.1 hu]; rfl) (by unfold maxLen; omega) (by omega) (by have := B3.out.size; simp; omega) ?_; intro v' w4 o2 g2 hx1 at1; clear hx1 at1))
     have hs3 : w.heap.size <= w3.heap.size := Nat.le_trans hBs B3.out.size
     have ob := O3.out.below (w' := w3.alloc (.cells #[.slice ua X.length uc] 35)) ((b0R).alloc (Nat.le_refl _) _) hs3
     have c3 := (HO.out.2.below B3.out).below (w' := w3.alloc (.cells #[.slice ua X.length uc] 35)) ((b0R).alloc (Nat.le_refl _) _)
     have c4 := keeps_copies (B' := w.heap.size) (T := 35) (by decide) _ _ _ c3 (own_tag ob.m) g2
     have u3 : w3.ownsRow w.heap.size 55 3 (.slice ua X.length uc) X.length (X.flatMap valEnc) := by simpa using U3.out
     have u4 := keeps_owns (B' := w.heap.size) (T := 35) (by decide) _ _ _ (owns_below u3 ((b0R).alloc (Nat.le_refl _) (.cells #[.slice ua X.length uc] 35))) (own_tag ob.m) g2
     have N4 := ob.push (by simp; omega) o2 g2
     obtain ⟨g, cap, rfl⟩ := own_form o2
     have NN := hid (show _ /\ _ from ⟨N4, c4.snoc (srt_len hi) u4⟩)
     clear ob c3 c4 u3 u4 N4 o2 g2
     go_meet
     exact ⟨g, cap, _, rfl, NN.out⟩
    case rest =>
     obtain ⟨g, cap, os, rfl, HC⟩ := hcut
     obtain ⟨W4, hW4⟩ : ∃ W, W = wc := ⟨_, rfl⟩
     subst hW4
     obtain ⟨S, hS⟩ : ∃ S, srt f L i = S := ⟨_, rfl⟩
     have hSl : S.length = i := by rw [<- hS]; exact srt_len hi
     rw [hS] at HC
     have HSN := hid (show srt f L (i + 1) = (insRev f X S.reverse).reverse by rw [srt_succ hlt, hS, HX.out])
     have HSM := hid (show ∀ x ∈ S, x.length <= 1000000 from fun x hx => HL.out x (srt_mem (hS ▸ hx)))
     have HXF := hid (show FineR X by rw [<- HX.out]; exact HS.out _ (List.getElem_mem hlt))
     have HSL := hid hSl
     have H0 := hid (show insAt S X i = S ++ [X] /\ (insRev f X (S.take i).reverse).reverse ++ S.drop i = (insRev f X S.reverse).reverse by
      unfold insAt
      rw [List.take_of_length_le (by omega), List.drop_eq_nil_of_le (by omega), List.append_nil]
      exact ⟨rfl, rfl⟩)
     clear HO R1 HR c0 hS hSl
     go_wp2_with fail
     go_loopw [7, 8] (fun x7 x8 wr => ∃ (k : Nat) (os : List Value), k <= i /\ x7 = .int .i64 k /\ Hid (OneAt w.heap.size w 35 1 (.slice (some ⟨g, 0, none⟩) (i + 1) cap) (i + 1) os wr /\ Copies w.heap.size (insAt S X k) (i + 1) os wr /\ (insRev f X (S.take k).reverse).reverse ++ S.drop k = (insRev f X S.reverse).reverse)) (fun x7 _ _ => (intOf x7).toNat)
     case atStart => exact ⟨i, os, Nat.le_refl _, rfl, HC.out.1, by rw [H0.out.1]; exact HC.out.2, H0.out.2⟩
     case round =>
      obtain ⟨k, os2, hk, rfl, HQ⟩ := hrel
      cases k with
      | zero =>
       rw [show ((0 : Nat) : Int) = 0 from rfl]
       go_upto_region 7 with (fail)
       refine wp_region_class (Below wr.heap.size wr) (by kernel_rfl) (by kernel_rfl) (Below.drew b0R) (fun ne => ?_)
       repeat (go_big_quiet_step (fail))
       refine wpQuiet_nil ?_
       intro w3 b3
       have B3 := hid b3
       clear b3 ne
       go_wp2_with fail
       go_roundw
       case rel => exact ⟨i + 1, _, os2, by omega, by go_num, rfl, HQ.out.1.below B3.out HQ.out.1.b.size, by rw [HSN.out, <- HQ.out.2.2]; exact HQ.out.2.1.below B3.out⟩
       case measure => simp [intOf]; omega
      | succ k =>
       have hkS : k < S.length := by rw [HSL.out]; omega
       have hml : (insAt S X (k + 1)).length = i + 1 := by rw [insAt_len (by omega), HSL.out]
       have hol : os2.length = i + 1 := HQ.out.2.1.1
       have ox := HQ.out.2.1.2 (k + 1) (by omega) (by omega)
       have oy := HQ.out.2.1.2 k (by omega) (by omega)
       rw [insAt_get (by omega)] at ox
       rw [insAt_pre hkS] at oy
       have cx := HQ.out.1.m.cellAt (k + 1) (by omega)
       have cyy := HQ.out.1.m.cellAt k (by omega)
       rw [List.getElem?_eq_getElem (by omega)] at cx cyy
       obtain ⟨a1, c1, e1, _⟩ := owns_shape' ox
       obtain ⟨a2, c2, e2, _⟩ := owns_shape' oy
       rw [e1] at cx ox
       rw [e2] at cyy oy
       obtain ⟨hgB, cur, hgb⟩ := own_block HQ.out.1.m
       obtain ⟨Y, hY⟩ : ∃ Y, S[k] = Y := ⟨_, rfl⟩
       rw [hY] at cyy oy
       have hYl : Y.length <= 1000000 := by rw [<- hY]; exact HSM.out _ (List.getElem_mem hkS)
       have VX := hid (owns_val ox hXl hgb)
       have VY := hid (owns_val oy hYl hgb)
       have VN := hid (HN.out.below HQ.out.1.b)
       have OX := hid ox
       have OY := hid oy
       have HY := hid hY
       have HML := hid hml
       have HGL := hid (lt_of_block hgb)
       have CC := hid (show _ /\ _ from ⟨cx, cyy⟩)
       have HGB := hid (show w.heap.size <= g /\ wr.heap[g]? = some (.cells cur 35 (0, 0)) from ⟨hgB, hgb⟩)
       clear ox oy e1 e2 hgb hgB hY hml hol cx cyy
       go_upto_region 7 with (fail)
       by_cases hneg : f X Y < 0
       · have HCON := hid (fun z : Wld (Below wr.heap.size wr) => (by
          have h := ahead_any (VX.out.below z.good) (VY.out.below z.good) (VN.out.below z.good) HXF.out
          rw [HFF.out, decide_eq_true hneg] at h
          exact h : Calls Tryz.prog 62 #[.slice a1 X.length c1, .slice a2 Y.length c2, .slice ay N.length cy] z.val fun e w' => e = .returned (.bool true) /\ Below z.val.heap.size z.val w'))
         refine wp_region_class (Below wr.heap.size wr) (by kernel_rfl) (by kernel_rfl) (Below.drew b0R) (fun ne => ?_)
         have cx := fun z : Wld (Below wr.heap.size wr) => (z.good.cell (p := ⟨g, k + 1, none⟩) HGL.out).trans CC.out.1
         have cyy := fun z : Wld (Below wr.heap.size wr) => (z.good.cell (p := ⟨g, k, none⟩) HGL.out).trans CC.out.2
         repeat (go_big_quiet_step ((go_at_call 62; (with_reducible refine Calls.mono (HCON.out _) ?_); rintro e w3 ⟨rfl, b3⟩; exact ⟨rfl, class_below _ b3 (Nat.le_refl _)⟩)))
         refine wpQuiet_nil ?_
         intro w3 b3
         have B3 := hid b3
         have h3 := (b3.block _ HGL.out).trans HGB.out.2
         have f0 := free_of h3 k
         have f1 := free_of h3 (k + 1)
         have dx := (b3.cell (p := ⟨g, k + 1, none⟩) HGL.out).trans CC.out.1
         have dy := (b3.cell (p := ⟨g, k, none⟩) HGL.out).trans CC.out.2
         clear b3 cx cyy h3 HCON
         go_wp2_with fail
         go_roundw
         case rel =>
          have hs := HQ.out.1.b.size
          have o3 := HQ.out.1.below B3.out hs
          have sw := copies_swap o3.m (HQ.out.2.1.below B3.out) HML.out (show k + 1 < i + 1 by omega) (show k < i + 1 by omega) (.slice a2 Y.length c2) (.slice a1 X.length c1) Y X (owns_below OY.out B3.out) (owns_below OX.out B3.out)
          rw [<- HY.out, insAt_swap hkS, HY.out] at sw
          exact ⟨k, _, by omega, by go_num, ⟨sw.1, (o3.b.setCell (p := ⟨g, k + 1, none⟩) HGB.out.1 _).setCell (p := ⟨g, k, none⟩) HGB.out.1 _⟩, sw.2, (ins_step hkS (by rw [HY.out]; exact hneg)).symm.trans HQ.out.2.2⟩
         case measure => simp [intOf]
       · have HCON := hid (fun z : Wld (Below wr.heap.size wr) => (by
          have h := ahead_any (VX.out.below z.good) (VY.out.below z.good) (VN.out.below z.good) HXF.out
          rw [HFF.out, decide_eq_false hneg] at h
          exact h : Calls Tryz.prog 62 #[.slice a1 X.length c1, .slice a2 Y.length c2, .slice ay N.length cy] z.val fun e w' => e = .returned (.bool false) /\ Below z.val.heap.size z.val w'))
         refine wp_region_class (Below wr.heap.size wr) (by kernel_rfl) (by kernel_rfl) (Below.drew b0R) (fun ne => ?_)
         have cx := fun z : Wld (Below wr.heap.size wr) => (z.good.cell (p := ⟨g, k + 1, none⟩) HGL.out).trans CC.out.1
         have cyy := fun z : Wld (Below wr.heap.size wr) => (z.good.cell (p := ⟨g, k, none⟩) HGL.out).trans CC.out.2
         repeat (go_big_quiet_step ((go_at_call 62; (with_reducible refine Calls.mono (HCON.out _) ?_); rintro e w3 ⟨rfl, b3⟩; exact ⟨rfl, class_below _ b3 (Nat.le_refl _)⟩)))
         refine wpQuiet_nil ?_
         intro w3 b3
         have B3 := hid b3
         clear b3 cx cyy HCON
         go_wp2_with fail
         go_roundw
         case rel =>
          have hs := HQ.out.1.b.size
          refine ⟨i + 1, _, os2, by omega, by go_num, rfl, HQ.out.1.below B3.out hs, ?_⟩
          rw [HSN.out, <- HQ.out.2.2, ins_end hkS (by rw [HY.out]; exact hneg)]
          exact HQ.out.2.1.below B3.out
         case measure => simp [intOf]; omega
  · have hin : i = L.length := by omega
    subst hin
    have HE := hid (show srt f L L.length = sortBy f L by
     unfold srt
     rw [List.take_length]
     exact ins_sort HT.out L)
    obtain ⟨sa, sc, rfl, _⟩ := owns_shape' HO.out.1.m
    go_wp2_with fail
    go_ret
    refine ⟨sa, sc, rfl, HO.out.1.b, ?_⟩
    rw [<- HE.out]
    have hlen := srt_len (f := f) (Nat.le_refl L.length)
    have hm := HO.out.1.m
    have hc := HO.out.2
    rw [<- hlen] at hm hc
    have := copies_sl (L := srt f L L.length) (by simpa [hlen] using hm) (by simpa [hlen] using hc) (by omega) (fun x hx => Nat.le_trans (HL.out x (srt_mem hx)) (by omega))
    simpa [hlen] using this
end
section
open Go.RowKit
theorem segs_assign {P : Program} {l : List Oper} {Q : Act -> World -> Prop} {I C : World -> Prop} {j : Nat} {a : Act} {o : Oper} {x : Operand} (hC : Stable C) (hCI : ∀ w, C w -> I w)
 (ho : l[j]? = some o) (hop : o.op = .assign x) (hw : Region.wanted o (yielded l.toArray a.tmps) = true) (hj : j = l.length - 1)
 (hrest : ∀ w, C w -> Q (a.put o.dst (a.eval x)) w) : wpSegs P l Q I [([], j)] a C := by
 refine ⟨I, a, fun _ h => h, hCI, fun _ _ => rfl, o, ho, hw, fun u w => u = a.eval x /\ C w, fun u w w' h hb => ⟨h.1, hC w w' h.2 hb⟩, fun h => absurd hj h, fun w hc => ?_, fun u ⟨w, h⟩ w' h' => ?_⟩
 · unfold Oper.loose execOp
   rw [hop]
   exact ⟨a.eval x, fun _ _ _ => rfl, rfl, hc⟩
 · rw [h'.1]
   exact hrest w' h'.2
def cutTo (L : List (List Val)) (k : Nat) : List (List Val) := (L.take k).map (·.take 5)
def cutV (L : List (List Val)) : List (List Val) := cutTo L (min L.length 20)
theorem cutTo_len {L : List (List Val)} {k : Nat} (hk : k <= L.length) : (cutTo L k).length = k := by
 unfold cutTo
 rw [List.length_map, List.length_take]
 omega
theorem cutTo_succ {L : List (List Val)} {k : Nat} (hk : k < L.length) : cutTo L (k + 1) = cutTo L k ++ [L[k].take 5] := by
 unfold cutTo
 rw [List.take_succ_eq_append_getElem hk, List.map_append]
 rfl
theorem cutV_len (L : List (List Val)) : (cutV L).length = min L.length 20 := cutTo_len (Nat.min_le_left _ _)
theorem cutV_row {L : List (List Val)} {r : List Val} (h : r ∈ cutV L) : r.length <= 5 /\ ∃ x ∈ L, ∀ v ∈ r, v ∈ x := by
 obtain ⟨x, hx, rfl⟩ := List.mem_map.1 h
 exact ⟨by rw [List.length_take]; omega, x, List.mem_of_mem_take hx, fun v hv => List.mem_of_mem_take hv⟩
theorem row_take {p : Nat -> Prop} {w : World} {a : Option Addr} {X : List Val} (m : Nat) (h : RowAt valR p w a X) : RowAt valR p w a (X.take m) := by
 rcases h with rfl | ⟨b, off, ha, hp, hb, hc⟩
 · exact Or.inl (by simp)
 · refine Or.inr ⟨b, off, ha, hp, hb, fun t ht => ?_⟩
   have ht' : t < X.length := by rw [List.length_take] at ht; omega
   obtain ⟨cs, h1, h2⟩ := hc t ht'
   exact ⟨cs, h1, by rw [List.getElem_take]; exact h2⟩
def NewE (w : World) (u : Value) (w' : World) : Prop := ∃ q, u = .slice (some ⟨q, 0, none⟩) 0 0 /\ w.heap.size <= q /\ w'.heap[q]? = some (.cells #[] 55 (0, 0)) /\ Below w.heap.size w w'
theorem NewE.below {w : World} {u : Value} {w1 w2 : World} (h : NewE w u w1) (hb : Below w1.heap.size w1 w2) : NewE w u w2 := by
 obtain ⟨q, e, hq, h1, h2⟩ := h
 exact ⟨q, e, hq, (hb.block _ (lt_of_block h1)).trans h1, h2.trans (hb.mono h2.size)⟩
def OwnR (w : World) (X : List Val) (u : Value) (w' : World) : Prop := ∃ ua uc, u = .slice ua X.length uc /\ w'.ownsRow w.heap.size 55 3 u X.length (X.flatMap valEnc) /\ Below w.heap.size w w'
theorem OwnR.below {w : World} {X : List Val} {u : Value} {w1 w2 : World} (h : OwnR w X u w1) (hb : Below w1.heap.size w1 w2) : OwnR w X u w2 := by
 obtain ⟨ua, uc, e, h1, h2⟩ := h
 exact ⟨ua, uc, e, owns_below h1 hb, h2.trans (hb.mono h2.size)⟩
theorem owns_empty {w : World} {B q : Nat} {e : TypeId} (sz : Nat) (hB : B <= q) (h : w.heap[q]? = some (.cells #[] e (0, 0))) : w.ownsRow B e sz (.slice (some ⟨q, 0, none⟩) 0 0) 0 [] :=
 ⟨by simp, Or.inr ⟨q, 0, #[], rfl, hB, h, Nat.le_refl _, Nat.zero_le _, by simp, by simp⟩⟩
def NewS (w : World) (Y : List Val) (ua : Option Addr) (uc : Nat) (u : Value) (w' : World) : Prop := ∃ g, u = .slice (some ⟨g, 0, none⟩) 1 1 /\ w'.heap[g]? = some (.cells #[.slice ua Y.length uc] 35 (0, 0)) /\ OwnR w Y (.slice ua Y.length uc) w'
set_option maxRecDepth 100000 in
set_option maxHeartbeats 8000000 in
theorem lrows_any {p : Nat -> Prop} {a : Option Addr} {c : Nat} {L : List (List Val)} {w : World} (h : SlV rowR p w (.slice a L.length c) L) :
 Calls Tryz.prog 26 #[.slice a L.length c] w fun e w' => ∃ sa sc, e = .returned (.slice sa (cutV L).length sc) /\ Below w.heap.size w w' /\ SlV rowR (fun k => w.heap.size <= k) w' (.slice sa (cutV L).length sc) (cutV L) := by
 obtain ⟨i0, hi0, hz0, hz1, hz2⟩ := info_parts info_rowV
 obtain ⟨i1, hi1, hy0, hy1, hy2⟩ := info_parts info_rowL
 have H := hid h
 clear h
 go_enter Tryz.func26, Tryz.ntmps26
 go_upto_region 2 with (fail)
 generalize hX : World.alloc _ _ = W1
 have o1 : W1.ownsRow w.heap.size 35 1 (.slice (some ⟨w.heap.size, 0, none⟩) 0 0) 0 [] := by rw [<- hX]; exact owns_new w 35 1
 have b1 : Below w.heap.size w W1 := by rw [<- hX]; exact (b0R).alloc (Nat.le_refl _) _
 have O1 := hid (show OneAt w.heap.size w 35 1 (.slice (some ⟨w.heap.size, 0, none⟩) 0 0) 0 [] W1 from ⟨o1, b1⟩)
 clear hX o1 b1
 go_wp2_with fail
 go_loopw [3, 4] (fun x3 x4 wr => ∃ (i : Nat) (v : Value) (outs : List Value), i <= min L.length 20 /\ x4 = .int .i64 i /\ v = x3 /\ Hid (OneAt w.heap.size w 35 1 v i outs wr /\ Copies w.heap.size (cutTo L i) i outs wr)) (fun _ x4 _ => min L.length 20 - (intOf x4).toNat)
 case atStart => exact ⟨0, _, [], Nat.zero_le _, rfl, rfl, O1.out, rfl, fun t h => by cases h⟩
 case round =>
  obtain ⟨i, v, outs, hi, rfl, rfl, HO⟩ := hrel
  by_cases hlt : i < min L.length 20
  · have hlL : i < L.length := by omega
    have hl20 : i < 20 := by omega
    obtain ⟨bb, oo, rfl, _, hbb⟩ := H.out.row.2.2.2.addr (by intro e; rw [e] at hlL; cases hlL)
    obtain ⟨ra, rc, c0, hr⟩ := H.out.row.2.2.2.lst i hlL
    obtain ⟨X, hX⟩ : ∃ X, L[i] = X := ⟨_, rfl⟩
    rw [hX] at c0 hr
    have hBs := HO.out.1.b.size
    obtain ⟨Y, hY⟩ : ∃ Y, X.take 5 = Y := ⟨_, rfl⟩
    have hyx : Y.length <= X.length := by rw [<- hY, List.length_take]; omega
    have hy5 : Y.length <= 5 := by rw [<- hY, List.length_take]; omega
    have hmi : min (X.length : Int) 5 = (Y.length : Int) := by rw [<- hY, List.length_take]; omega
    have hyc : Y.length <= rc := Nat.le_trans hyx hr.row.2.1
    have HX := hid (show L[i].take 5 = Y by rw [hX, hY])
    have HRA := hid (show RowAt valR p w ra Y by rw [<- hY]; exact row_take 5 hr.row.2.2.2)
    have HC0 := hid (show bb < w.heap.size /\ w.cell? ⟨bb, oo + i, none⟩ = some (.slice ra X.length rc) from ⟨hbb, c0⟩)
    clear hX hr hY c0 hbb
    go_upto_region 5 with (fail)
    refine wp_region_loose2 [([0, 2, 3, 4, 5, 6, 7, 8, 9, 10, 11, 12], 1), ([], 13), ([], 14), ([], 15), ([], 16)] (Below w.heap.size w) (Below wr.heap.size wr) (by kernel_rfl) (by kernel_rfl) (by kernel_rfl) (fun w1 w2 h b => h.trans (b.mono h.size)) (Below.drew b0R) ?_
    have TI := hid (show ∀ w', Below wr.heap.size wr w' -> Below w.heap.size w w' from fun w' h => HO.out.1.b.trans (h.mono hBs))
    apply wpSegs_cons (Below w.heap.size w) (NewE wr) (fun _ h => h) TI.out
    case hq =>
     intro w0 hw0
     have ne : Nonempty (Wld (Below w0.heap.size w0)) := ⟨⟨w0, Below.refl _ _⟩⟩
     have cx := fun x : Wld (Below w0.heap.size w0) => ((hw0.trans (x.good.mono hw0.size)).cell (p := ⟨bb, oo + i, none⟩) HC0.out.1).trans HC0.out.2
     simp only [pickOps, List.getElem?_cons_zero, List.getElem?_cons_succ]
     apply quiet_hide
     intro KE hKE
     repeat (go_big_quiet_step (fail))
     refine wpQuiet_nil ?_
     exact hKE _ rfl
    case ho => rfl
    case hop => rfl
    case hw => kernel_rfl
    case hDJ => exact fun _ _ _ h => TI.out _ h.choose_spec.2.2.2
    case hD => exact fun u w1 w2 h hb => h.below hb
    case hlo =>
     intro wa ba
     go_wp2_with fail
     exact ⟨wa.heap.size, rfl, ba.size, heap_alloc_new _ _, ba.alloc ba.size _⟩
    case hrest =>
     rintro u w1 ⟨q, rfl, hq0, -, -⟩
     simp only [Act.put, List.setIfInBounds_toArray, List.set_cons_succ, List.set_cons_zero]
     apply wpSegs_cons0 (OwnR wr Y) (fun _ h => TI.out _ h.choose_spec.2.2.2)
     case ho => rfl
     case hop => rfl
     case hw => kernel_rfl
     case hDI => exact fun _ _ _ h => TI.out _ h.choose_spec.choose_spec.2.2
     case hD => exact fun u w1 w2 h hb => h.below hb
     case hlo =>
      rintro wa ⟨q', e, hq', hb, ba⟩
      obtain rfl : q = q' := by simpa using e
      clear e
      refine wpList_append_flat' rfl _ _ 35 rfl wr.heap.size 55 i0 _ 3 32 Tryz.underlying35 hi0 hz0 hz1 hz2 rfl (by decide) _ 0 [] rfl (owns_empty 3 hq' hb) Y ra rc rfl (HRA.out.below (TI.out _ ba)) (val_cells Y) (by unfold maxLen; omega) (by omega) ba.size ?_
      intro v1 w3 o1 g1
      obtain ⟨ua, uc, rfl, _⟩ := owns_shape' o1
      refine wpList_nil ⟨rfl, _, rfl, ua, uc, by simp, by simpa using o1, ba.grown g1 ba.size (fun k hk => by cases hk; exact hq')⟩
     case hrest =>
      rintro u2 w2 ⟨ua, uc, rfl, -, -⟩
      simp only [Act.put, List.setIfInBounds_toArray, List.set_cons_succ, List.set_cons_zero]
      apply wpSegs_cons0 (NewS wr Y ua uc) (fun _ h => TI.out _ h.choose_spec.choose_spec.2.2)
      case ho => rfl
      case hop => rfl
      case hw => kernel_rfl
      case hDI => exact fun _ _ _ h => TI.out _ h.choose_spec.2.2.choose_spec.choose_spec.2.2
      case hD => exact fun u w1 w2 ⟨g, e, h1, h2⟩ hb => ⟨g, e, (hb.block _ (lt_of_block h1)).trans h1, h2.below hb⟩
      case hlo =>
       intro wa ha
       have HA := hid ha
       clear ha
       go_wp2_with fail
       exact ⟨wa.heap.size, rfl, heap_alloc_new _ _, HA.out.below ((b0R).alloc (Nat.le_refl _) _)⟩
      case hrest =>
       rintro u3 w3 ⟨g, rfl, -, -⟩
       simp only [Act.put, List.setIfInBounds_toArray, List.set_cons_succ, List.set_cons_zero]
       apply wpSegs_cons0 (fun u w' => OneAt w.heap.size w 35 1 u (i + 1) (outs ++ [.slice ua Y.length uc]) w' /\ Copies w.heap.size (cutTo L (i + 1)) (i + 1) (outs ++ [.slice ua Y.length uc]) w') (fun _ h => TI.out _ h.choose_spec.2.2.choose_spec.choose_spec.2.2)
       case ho => rfl
       case hop => rfl
       case hw => kernel_rfl
       case hDI => exact fun _ _ _ h => h.1.b
       case hD => exact fun u w1 w2 h hb => ⟨h.1.below hb h.1.b.size, h.2.below hb⟩
       case hlo =>
        rintro wa ⟨g', e, hg, ua', uc', e', ho, ba⟩
        obtain rfl : g = g' := by simpa using e
        clear e e'
        have ob := HO.out.1.below ba hBs
        have hsz : w.heap.size <= wa.heap.size := Nat.le_trans hBs ba.size
        refine wpList_append_own_at _ rfl _ _ 41 rfl w.heap.size 35 i1 _ 1 24 Tryz.underlying41 hi1 hy0 hy1 hy2 rfl (by decide) v i _ rfl ob.m ⟨g, 0, none⟩ 1 1 [.slice ua Y.length uc] rfl rfl (fun j u hj => by rw [addr_add, cells_of hg]; simpa using hj) (fun u hu => by rw [List.mem_singleton.1 hu]; rfl) (by unfold maxLen; omega) (by omega) hsz ?_
        intro v1 w4 o1 g1 hx1 at1
        refine wpList_nil ⟨rfl, v1, rfl, ob.push hsz o1 g1, ?_⟩
        have c4 := keeps_copies (B' := w.heap.size) (T := 35) (by decide) _ _ _ (HO.out.2.below ba) (own_tag ob.m) g1
        have u4 := keeps_owns (B' := w.heap.size) (T := 35) (by decide) _ _ _ (owns_base ho hBs) (own_tag ob.m) g1
        rw [cutTo_succ hlL, HX.out]
        exact c4.snoc (cutTo_len (by omega)) u4
       case hrest =>
        rintro u4 w4 ⟨-, -⟩
        simp only [Act.put, List.setIfInBounds_toArray, List.set_cons_succ, List.set_cons_zero]
        refine segs_assign (fun w1 w2 h hb => ⟨h.1.below hb h.1.b.size, h.2.below hb⟩) (fun _ h => h.1.b) rfl rfl (by kernel_rfl) rfl (fun w' h => ?_)
        have HH := hid h
        clear h
        simp only [Act.put, List.setIfInBounds_toArray, List.set_cons_succ, List.set_cons_zero]
        go_wp2_with fail
        go_roundw
        case rel => exact ⟨i + 1, _, _, by omega, by go_num, rfl, HH.out⟩
        case measure => simp [intOf]; omega
  · have hin : i = min L.length 20 := by omega
    obtain ⟨sa, sc, rfl, _⟩ := owns_shape' HO.out.1.m
    have d1 : (decide (i < L.length) && decide (i < 20)) = false := by simp; omega
    have HI := hid hin
    rcases (show ¬ i < L.length \/ (i < L.length /\ ¬ i < 20) by omega) with h | ⟨h, h'⟩
    all_goals
     clear hin hlt d1
     go_wp2_with fail
     go_ret
     have hlen := cutV_len L
     refine ⟨sa, sc, by rw [hlen, <- HI.out]; rfl, HO.out.1.b, ?_⟩
     have hm := HO.out.1.m
     have hc := HO.out.2
     rw [HI.out] at hm hc
     have e : cutTo L (min L.length 20) = cutV L := rfl
     rw [e, <- hlen] at hc
     rw [<- hlen] at hm
     exact copies_sl hm hc (by omega) (fun x hx => by have := (cutV_row hx).1; omega)
end
end Go.Proofs.YtgemihkcihigpaaGreatDoor
