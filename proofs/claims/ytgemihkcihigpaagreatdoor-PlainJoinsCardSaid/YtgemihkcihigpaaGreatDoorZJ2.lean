/- PlainJoins, plain: the size of a join, its rows, and the statements that are refused. -/
import Derived.Test.YtgemihkcihigpaaGreatDoorZB11
namespace Go.Proofs.YtgemihkcihigpaaGreatDoor
set_option linter.unusedVariables false
set_option linter.unusedSimpArgs false
open Go Go.RowKit

def joS : Stmt := { stmt0 with kind := 7, table := sT, names := [sB, sA, sC], join := sU, left := sB, right := sB, order := [sC, sA] }
def badS (j l : ByteArray) : Stmt := { stmt0 with kind := 7, table := sT, names := [sB], join := j, left := l, right := sB }
def tTU : Tab := { tT with cols := colsT ++ colsU }
def joR (A B : List (List Val)) : List (List Val) := joinR A B 1 0
def joK (A B : List (List Val)) : List (List Val) := sortBy cmpR ((joR A B).map fun r => ([3, 0, 1, 0, 3] : List Int).map (valAt r))
def joM (A B : List (List Val)) : List (List Val) := (joK A B).map (·.drop 2)
theorem col_ja : colOf tTU sA = 0 := by rw [colOf_f]; rfl
theorem col_jb : colOf tTU sB = 1 := by rw [colOf_f]; rfl
theorem col_jc : colOf tTU sC = 3 := by rw [colOf_f]; rfl
theorem col_tc : colOf tT sC = -1 := by rw [colOf_f]; rfl
theorem tab_0 : tabAt [tT, tU] 0 = tT := rfl
theorem tab_1 : tabAt [tT, tU] 1 = tU := rfl
theorem jo_from {st : Stmt} (ht : st.table = sT) (hj : st.join = sU) (hl : st.left = sB) (hr : st.right = sB) (A B : List (List Val)) : fromE (twoS A B) st = 0 ∧ fromT (twoS A B) st = tTU ∧ fromR (twoS A B) st = joR A B := by
  have e1 : colOf (tabAt (twoS A B).tabs 0) sB = 1 := col_tb
  have e2 : colOf (tabAt (twoS A B).tabs 1) sB = 0 := col_ub
  refine ⟨?_, ?_, ?_⟩
  · unfold fromE
    rw [ht, hj, hl, hr, findT_t, findT_u, if_neg (by decide), if_neg (by decide), if_neg (by decide), e1, e2]
    exact if_neg (by decide)
  · unfold fromT
    rw [ht, hj, findT_t, findT_u, if_neg (by decide)]
    rfl
  · unfold fromR
    rw [ht, hj, hl, hr, findT_t, findT_u, if_neg (by decide), e1, e2]
    rfl
theorem filt_nil (T : Tab) (L : List (List Val)) : L.filter (fitsW T []) = L := List.filter_eq_self.2 fun _ _ => rfl
theorem joM_len (A B : List (List Val)) : (joM A B).length = (joR A B).length := by
  unfold joM joK sortBy
  rw [List.length_map, List.length_mergeSort, List.length_map]
theorem jo_err {A B : List (List Val)} : stepE (twoS A B) joS = if 400 < (joR A B).length then 2 else 0 := by
  obtain ⟨h1, h2, h3⟩ := jo_from (st := joS) rfl rfl rfl rfl A B
  have hn : joS.names.map (colOf tTU) = [1, 0, 3] := by show [colOf tTU sB, colOf tTU sA, colOf tTU sC] = _; rw [col_ja, col_jb, col_jc]
  have ho : joS.order.map (colOf tTU) = [3, 0] := by show [colOf tTU sC, colOf tTU sA] = _; rw [col_ja, col_jc]
  rw [stepE_qry rfl]
  unfold queryE
  rw [if_neg (by show ¬ ((0 : Int) < 0 ∨ (4 : Int) < 0 ∨ ((0 : Int) < 0 ∧ _)); omega), h1, h2, h3, hn, ho, show joS.wher = [] from rfl, lacks_nil, filt_nil, if_neg (fun h => h rfl), if_neg (by decide), if_neg (fun h => absurd (show (0 : Int) = 2 from h.1) (by decide)), if_neg (by decide), if_neg (by show ¬ (0 : Int) < 0; decide), if_neg (by decide)]
theorem jo_many {A B : List (List Val)} (h : 400 < (joR A B).length) : stepA (twoS A B) joS = ⟨2, [], 0⟩ := by
  have e : stepE (twoS A B) joS = 2 := by rw [jo_err, if_pos h]
  rw [stepA_err (by rw [e]; decide), e]
  rfl
theorem jo_law {A B : List (List Val)} (h : ¬ 400 < (joR A B).length) : stepA (twoS A B) joS = ⟨0, joM A B, (joM A B).length⟩ := by
  obtain ⟨h1, h2, h3⟩ := jo_from (st := joS) rfl rfl rfl rfl A B
  have hn : joS.names.map (colOf tTU) = [1, 0, 3] := by show [colOf tTU sB, colOf tTU sA, colOf tTU sC] = _; rw [col_ja, col_jb, col_jc]
  have ho : joS.order.map (colOf tTU) = [3, 0] := by show [colOf tTU sC, colOf tTU sA] = _; rw [col_ja, col_jc]
  have e : stepE (twoS A B) joS = 0 := by rw [jo_err, if_neg h]
  rw [stepA_qry rfl e]
  unfold queryA
  rw [if_neg (by show ¬ (0 : Int) < 0; decide), h2, h3, show joS.wher = [] from rfl, filt_nil, joM_len]
  unfold queryRows
  rw [hn, ho]
  rfl
theorem bad_law {A B : List (List Val)} {j l : ByteArray} {e : Int} (h : fromE (twoS A B) (badS j l) = e) (he : e ≠ 0) : stepA (twoS A B) (badS j l) = ⟨e, [], 0⟩ := by
  have e1 : stepE (twoS A B) (badS j l) = e := by
    rw [stepE_qry rfl]
    unfold queryE
    rw [if_neg (by show ¬ ((0 : Int) < 0 ∨ (4 : Int) < 0 ∨ ((0 : Int) < 0 ∧ _)); omega), if_pos (by rw [h]; exact he), h]
  rw [stepA_err (by rw [e1]; exact he), e1]
  rfl
theorem bad_twice (A B : List (List Val)) : stepA (twoS A B) (badS sT sB) = ⟨51, [], 0⟩ := by
  refine bad_law ?_ (by decide)
  unfold fromE
  rw [show (badS sT sB).table = sT from rfl, show (badS sT sB).join = sT from rfl, findT_t, if_neg (by decide), if_neg (by decide), if_pos rfl]
theorem bad_name (A B : List (List Val)) : stepA (twoS A B) (badS sU sC) = ⟨50, [], 0⟩ := by
  refine bad_law ?_ (by decide)
  unfold fromE
  rw [show (badS sU sC).table = sT from rfl, show (badS sU sC).join = sU from rfl, show (badS sU sC).left = sC from rfl, findT_t, findT_u, if_neg (by decide), if_neg (by decide), if_neg (by decide)]
  have e1 : colOf (tabAt (twoS A B).tabs 0) sC = -1 := col_tc
  rw [e1, if_pos (Or.inr (Or.inl (by decide)))]
theorem jo_count (A B : List (List Val)) : stepA (twoS A B) (cntS sT sU sB sB []) = ⟨0, [[⟨1, (joR A B).length, noStr⟩]], 1⟩ := by
  obtain ⟨h1, h2, h3⟩ := jo_from (st := cntS sT sU sB sB []) rfl rfl rfl rfl A B
  have e : stepE (twoS A B) (cntS sT sU sB sB []) = 0 := by
    rw [stepE_qry rfl]
    unfold queryE
    rw [if_neg (by show ¬ ((1 : Int) < 0 ∨ (4 : Int) < 1 ∨ ((0 : Int) < 1 ∧ (0 : Int) ≠ if (1 : Int) < 1 then 1 else 0)); decide), h1, h2, if_neg (fun h => h rfl), if_neg (by show ¬ anyNeg [] = true; decide), if_neg (fun h => absurd (show (1 : Int) = 2 from h.1) (by decide)), if_neg (by rw [show (cntS sT sU sB sB []).wher = [] from rfl, lacks_nil]; decide), if_pos (by show (0 : Int) < 1; decide)]
  rw [stepA_qry rfl e]
  unfold queryA
  rw [if_pos (by show (0 : Int) < 1; decide), h3, show (cntS sT sU sB sB []).wher = [] from rfl, filt_nil]
  rfl
/-- the texts that the filled state holds -/
def JV (v : Val) : Prop := v = val0 ∨ v = tx (xyzB 0) ∨ v = tx (xyzB 1) ∨ v = tx (xyzB 2)
def JRowT (r : List Val) : Prop := ∃ a b, r = [a, b] ∧ JV b
def JRowU (r : List Val) : Prop := ∃ b a, r = [b, a] ∧ JV b
theorem fillT_jv (x : Int) : JV (fillT x) := by
  unfold fillT
  split
  · exact Or.inl rfl
  · unfold xyzB
    split
    · exact Or.inr (Or.inl rfl)
    · split
      · exact Or.inr (Or.inr (Or.inl rfl))
      · exact Or.inr (Or.inr (Or.inr rfl))
theorem fillA_jv (l : List Int) : ∀ k, ∀ r ∈ fillA l k, JRowT r
  | 0 => fun r h => absurd h List.not_mem_nil
  | k + 1 => by
    have h1 := fillA_jv l k
    unfold fillA
    split
    · intro r hr
      rcases List.mem_append.1 hr with hr | hr
      · exact h1 r hr
      · rw [List.mem_singleton.1 hr]
        exact ⟨_, _, rfl, fillT_jv _⟩
    · exact h1
theorem fillB_jv (l : List Int) : ∀ k, ∀ r ∈ fillB l k, JRowU r
  | 0 => fun r h => absurd h List.not_mem_nil
  | k + 1 => by
    have h1 := fillB_jv l k
    unfold fillB
    split
    · exact h1
    · intro r hr
      rcases List.mem_append.1 hr with hr | hr
      · exact h1 r hr
      · rw [List.mem_singleton.1 hr]
        exact ⟨_, _, rfl, fillT_jv _⟩
def eqJ (b : Val) (j : Nat) : Bool := fitsV b 1 (tx (xyzB j))
theorem eqJ_0 (j : Nat) : eqJ val0 j = false := by
  unfold eqJ fitsV
  exact if_pos (Or.inl rfl)
theorem eqJ_t : eqJ (tx (xyzB 0)) 0 = true ∧ eqJ (tx (xyzB 0)) 1 = false ∧ eqJ (tx (xyzB 0)) 2 = false ∧ eqJ (tx (xyzB 1)) 0 = false ∧ eqJ (tx (xyzB 1)) 1 = true ∧ eqJ (tx (xyzB 1)) 2 = false ∧ eqJ (tx (xyzB 2)) 0 = false ∧ eqJ (tx (xyzB 2)) 1 = false ∧ eqJ (tx (xyzB 2)) 2 = true := by
  refine ⟨?_, ?_, ?_, ?_, ?_, ?_, ?_, ?_, ?_⟩ <;> rfl
theorem fits_0 (b : Val) : fitsV val0 1 b = false := by
  unfold fitsV
  exact if_pos (Or.inl rfl)
theorem fits_sym {b : Val} (hb : JV b) (j : Nat) (hj : j < 3) : fitsV (tx (xyzB j)) 1 b = eqJ b j := by
  obtain ⟨h0, h1, h2, h3, h4, h5, h6, h7, h8⟩ := eqJ_t
  rcases (show j = 0 ∨ j = 1 ∨ j = 2 by omega) with rfl | rfl | rfl <;> rcases hb with rfl | rfl | rfl | rfl
  · rfl
  · exact h0
  · exact h3.symm ▸ h1
  · exact h6.symm ▸ h2
  · rfl
  · exact h1.symm ▸ h3
  · exact h4
  · exact h7.symm ▸ h5
  · rfl
  · exact h2.symm ▸ h6
  · exact h5.symm ▸ h7
  · exact h8
def cA (A : List (List Val)) (j : Nat) : Nat := (A.filter fun r => eqJ (valAt r 1) j).length
def cB (B : List (List Val)) (j : Nat) : Nat := (B.filter fun r => eqJ (valAt r 0) j).length
def pairsTo (A B : List (List Val)) : Nat → Nat
  | 0 => 0
  | k + 1 => pairsTo A B k + cA A k * cB B k
theorem match_row {B : List (List Val)} (hB : ∀ r ∈ B, JRowU r) (j : Nat) (hj : j < 3) : (B.filter fun y => fitsV (tx (xyzB j)) 1 (valAt y 0)).length = cB B j := by
  unfold cB
  congr 1
  refine List.filter_congr fun r hr => ?_
  obtain ⟨b, a, rfl, hb⟩ := hB r hr
  exact fits_sym hb j hj
theorem joR_len {B : List (List Val)} (hB : ∀ r ∈ B, JRowU r) : ∀ (A : List (List Val)), (∀ r ∈ A, JRowT r) → (joR A B).length = pairsTo A B 3
  | [], _ => by simp [joR, joinR, pairsTo, cA]
  | r :: A, hA => by
    have ih := joR_len hB A fun x hx => hA x (List.mem_cons_of_mem _ hx)
    have e : (joR (r :: A) B).length = (B.filter fun y => fitsV (valAt r 1) 1 (valAt y 0)).length + (joR A B).length := by
      unfold joR joinR
      rw [List.flatMap_cons, List.length_append, List.length_map]
    obtain ⟨a, b, rfl, hb⟩ := hA r List.mem_cons_self
    have c : ∀ j, cA ([a, b] :: A) j = cA A j + if eqJ b j = true then 1 else 0 := fun j => by
      unfold cA
      rw [flen]
      rfl
    rw [e, ih]
    show (B.filter fun y => fitsV b 1 (valAt y 0)).length + _ = _
    unfold pairsTo pairsTo pairsTo pairsTo
    rw [c 0, c 1, c 2]
    obtain ⟨h0, h1, h2, h3, h4, h5, h6, h7, h8⟩ := eqJ_t
    rcases hb with rfl | rfl | rfl | rfl
    · rw [eqJ_0, eqJ_0, eqJ_0, if_neg (by decide), show (B.filter fun y => fitsV val0 1 (valAt y 0)) = [] from List.filter_eq_nil_iff.2 fun y _ => by rw [fits_0]; decide]
      simp
    · rw [show (B.filter fun y => fitsV (tx (xyzB 0)) 1 (valAt y 0)).length = cB B 0 from match_row hB 0 (by omega), h0, h1, h2, if_pos rfl, if_neg (by decide), Nat.add_mul, Nat.add_mul, Nat.add_mul, Nat.one_mul, Nat.zero_mul]
      omega
    · rw [show (B.filter fun y => fitsV (tx (xyzB 1)) 1 (valAt y 0)).length = cB B 1 from match_row hB 1 (by omega), h3, h4, h5, if_pos rfl, if_neg (by decide), Nat.add_mul, Nat.add_mul, Nat.add_mul, Nat.one_mul, Nat.zero_mul]
      omega
    · rw [show (B.filter fun y => fitsV (tx (xyzB 2)) 1 (valAt y 0)).length = cB B 2 from match_row hB 2 (by omega), h6, h7, h8, if_pos rfl, if_neg (by decide), Nat.add_mul, Nat.add_mul, Nat.add_mul, Nat.one_mul, Nat.zero_mul]
      omega
/-- the counts that the law asks for -/
theorem cA_law {A : List (List Val)} (hA : ∀ r ∈ A, JRowT r) (j : Nat) : (A.filter (fitsW tT [condB 1 (tx (xyzB j))])).length = cA A j := by
  unfold cA
  congr 1
  refine List.filter_congr fun r hr => ?_
  obtain ⟨a, b, rfl, hb⟩ := hA r hr
  rw [fitsW_cons, fitsW_nil, Bool.and_true, fitsC_1 (c := condB 1 (tx (xyzB j))) col_tb]
  rfl
theorem cB_law {B : List (List Val)} (hB : ∀ r ∈ B, JRowU r) (j : Nat) : (B.filter (fitsW tU [condB 1 (tx (xyzB j))])).length = cB B j := by
  unfold cB
  congr 1
  refine List.filter_congr fun r hr => ?_
  obtain ⟨b, a, rfl, hb⟩ := hB r hr
  rw [fitsW_cons, fitsW_nil, Bool.and_true, fitsC_0 (c := condB 1 (tx (xyzB j))) col_ub]
  rfl
theorem lacks_b (T : Tab) (h : 0 ≤ colOf T sB) (v : Val) : lacksB T [condB 1 v] = false := lacks_cons h (lacks_nil _)
theorem cA_le {A : List (List Val)} (j : Nat) : cA A j ≤ A.length := List.length_filter_le _ _
theorem cB_le {B : List (List Val)} (j : Nat) : cB B j ≤ B.length := List.length_filter_le _ _
/-- the rows of a join -/
theorem joK_mem {A B : List (List Val)} (hA : ∀ r ∈ A, JRowT r) (hB : ∀ r ∈ B, JRowU r) : ∀ x ∈ joK A B, ∃ c a b, x = [c, a, b, a, c] ∧ b.kind = 2 := by
  intro x hx
  have : x ∈ (joR A B).map fun r => ([3, 0, 1, 0, 3] : List Int).map (valAt r) := (List.mergeSort_perm _ _).mem_iff.1 hx
  obtain ⟨r, hr, rfl⟩ := List.mem_map.1 this
  obtain ⟨u, hu, hru⟩ := List.mem_flatMap.1 hr
  obtain ⟨y, hy, rfl⟩ := List.mem_map.1 hru
  obtain ⟨hy1, hy2⟩ := List.mem_filter.1 hy
  obtain ⟨a, b, rfl, hb⟩ := hA u hu
  obtain ⟨b', c, rfl, _⟩ := hB y hy1
  refine ⟨c, a, b, rfl, ?_⟩
  rcases hb with rfl | rfl | rfl | rfl
  · exfalso
    have h2 : fitsV val0 1 b' = true := hy2
    rw [fits_0] at h2
    cases h2
  · rfl
  · rfl
  · rfl
theorem joK_sorted (A B : List (List Val)) : (joK A B).Pairwise fun a b => cmpR a b ≤ 0 := by
  have h := List.pairwise_mergeSort (le := fun a b : List Val => decide (cmpR a b ≤ 0)) (fun a b c h1 h2 => by simpa using tot_cmpR.trans a b c (by simpa using h1) (by simpa using h2))
    (fun a b => by
      have := tot_cmpR.anti a b
      by_cases h : cmpR a b ≤ 0
      · simp [h]
      · have : cmpR b a < 0 := (tot_cmpR.anti b a).2 (by omega)
        simp; omega) ((joR A B).map fun r => ([3, 0, 1, 0, 3] : List Int).map (valAt r))
  exact h.imp (by simp)
theorem joM_row {A B : List (List Val)} (hA : ∀ r ∈ A, JRowT r) (hB : ∀ r ∈ B, JRowU r) : (∀ r ∈ joM A B, ∃ b a c, r = [b, a, c] ∧ b.kind = 2) ∧ ∀ i (h : i + 1 < (joM A B).length), cmpV (valAt ((joM A B)[i]'(by omega)) 2) (valAt (joM A B)[i + 1] 2) ≤ 0 := by
  refine ⟨fun r hr => ?_, fun i h => ?_⟩
  · obtain ⟨x, hx, rfl⟩ := List.mem_map.1 hr
    obtain ⟨c, a, b, rfl, hb⟩ := joK_mem hA hB x hx
    exact ⟨b, a, c, rfl, hb⟩
  · have hl : (joM A B).length = (joK A B).length := List.length_map _
    have h1 : i + 1 < (joK A B).length := by omega
    have h2 := List.pairwise_iff_getElem.1 (joK_sorted A B) i (i + 1) (by omega) h1 (by omega)
    obtain ⟨c, a, b, e1, _⟩ := joK_mem hA hB _ (List.getElem_mem (show i < (joK A B).length by omega))
    obtain ⟨c', a', b', e2, _⟩ := joK_mem hA hB _ (List.getElem_mem h1)
    rw [e1, e2] at h2
    have g : ∀ k (h : k < (joM A B).length) (h' : k < (joK A B).length), (joM A B)[k] = (joK A B)[k].drop 2 := fun k _ _ => List.getElem_map _
    rw [g i (by omega) (by omega), g (i + 1) h h1, e1, e2]
    show cmpV c c' ≤ 0
    unfold cmpR at h2
    split at h2
    · omega
    · exact h2
end Go.Proofs.YtgemihkcihigpaaGreatDoor
