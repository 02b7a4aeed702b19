/- PlainAggregates, plain: what the aggregates are, told from the sorted list of the column's values. -/
import Derived.Test.YtgemihkcihigpaaGreatDoorZB11
namespace Go.Proofs.YtgemihkcihigpaaGreatDoor
set_option linter.unusedVariables false
set_option linter.unusedSimpArgs false
open Go Go.RowKit

def selA (v : Val) : Stmt := { stmt0 with kind := 7, table := sT, names := [sA], wher := [condA 4 v] }
def aggS (i : Int) (L : List ByteArray) (v : Val) : Stmt := { stmt0 with kind := 7, table := sT, agg := i, names := L, wher := [condA 4 v] }
/-- the rows that are asked for, and their column, sorted -/
def aF (A : List (List Val)) (v : Val) : List (List Val) := A.filter (fitsW tT [condA 4 v])
def aM (A : List (List Val)) (v : Val) : List (List Val) := sortBy cmpR ((aF A v).map fun r => [valAt r 0])
theorem lacks_a (v : Val) : lacksB tT [condA 4 v] = false := lacks_cons (by show 0 ≤ colOf tT sA; rw [col_ta]; decide) (lacks_nil _)
theorem selA_law {A B : List (List Val)} {v : Val} (hA : A.length ≤ 48) : stepA (twoS A B) (selA v) = ⟨0, aM A v, (aM A v).length⟩ := by
  obtain ⟨h1, h2, h3⟩ := san_from (st := selA v) rfl rfl A B
  have hn : (selA v).names.map (colOf tT) = [0] := by show [colOf tT sA] = [0]; rw [col_ta]
  have hl : lacksB tT (selA v).wher = false := lacks_a v
  have hle : (A.filter (fitsW tT (selA v).wher)).length ≤ 48 := Nat.le_trans (List.length_filter_le _ _) hA
  have e : stepE (twoS A B) (selA v) = 0 := by
    rw [stepE_qry rfl]
    unfold queryE
    rw [if_neg (by show ¬ ((0 : Int) < 0 ∨ (4 : Int) < 0 ∨ ((0 : Int) < 0 ∧ _)); omega), h1, h2, h3, hn, hl, if_neg (fun h => h rfl), if_neg (by decide), if_neg (fun h => absurd (show (0 : Int) = 2 from h.1) (by decide)), if_neg (by decide), if_neg (by show ¬ (0 : Int) < 0; decide), if_neg (by show ¬ anyNeg [] = true; decide), if_neg (by omega)]
  rw [stepA_qry rfl e]
  unfold queryA
  rw [if_neg (by show ¬ (0 : Int) < 0; decide), h2, h3]
  have hm : queryRows tT (selA v) (A.filter (fitsW tT (selA v).wher)) = aM A v := by
    unfold queryRows
    rw [hn]
    show (sortBy cmpR ((aF A v).map fun r => ([0] : List Int).map (valAt r))).map (·.drop 0) = aM A v
    rw [show (fun x : List Val => x.drop 0) = id from rfl, List.map_id]
    rfl
  rw [hm]
  have hlen : (aM A v).length = (A.filter (fitsW tT (selA v).wher)).length := by
    unfold aM sortBy
    rw [List.length_mergeSort, List.length_map]
    rfl
  rw [hlen]
theorem aggS_law {A B : List (List Val)} {v : Val} {i : Int} {L : List ByteArray} (hi : (i = 1 ∧ L = []) ∨ (2 ≤ i ∧ i ≤ 4 ∧ L = [sA])) : stepA (twoS A B) (aggS i L v) = ⟨0, [[aggV i (aF A v) [0]]], 1⟩ := by
  obtain ⟨h1, h2, h3⟩ := san_from (st := aggS i L v) rfl rfl A B
  have hl : lacksB tT (aggS i L v).wher = false := lacks_a v
  have hg : (aggS i L v).agg = i := rfl
  rcases hi with ⟨rfl, rfl⟩ | ⟨i1, i2, rfl⟩
  · have hn : (aggS 1 [] v).names.map (colOf tT) = [] := rfl
    have e : stepE (twoS A B) (aggS 1 [] v) = 0 := by
      rw [stepE_qry rfl]
      unfold queryE
      rw [if_neg (by show ¬ ((1 : Int) < 0 ∨ (4 : Int) < 1 ∨ ((0 : Int) < 1 ∧ (0 : Int) ≠ if (1 : Int) < 1 then 1 else 0)); decide), h1, h2, hn, hl, if_neg (fun h => h rfl), if_neg (by decide), if_neg (fun h => absurd (show (1 : Int) = 2 from h.1) (by decide)), if_neg (by decide), if_pos (by show (0 : Int) < 1; decide)]
    rw [stepA_qry rfl e]
    unfold queryA
    rw [if_pos (by show (0 : Int) < 1; decide), h2, h3]
    rfl
  · have hn : (aggS i [sA] v).names.map (colOf tT) = [0] := by show [colOf tT sA] = [0]; rw [col_ta]
    have e : stepE (twoS A B) (aggS i [sA] v) = 0 := by
      rw [stepE_qry rfl]
      unfold queryE
      rw [if_neg (by show ¬ (i < 0 ∨ 4 < i ∨ (0 < i ∧ (1 : Int) ≠ if 1 < i then 1 else 0)); rw [if_pos (by omega)]; omega), h1, h2, hn, hl, if_neg (fun h => h rfl), if_neg (by decide), if_neg (fun h => h.2 rfl), if_neg (by decide), if_pos (by show (0 : Int) < i; omega)]
    rw [stepA_qry rfl e]
    unfold queryA
    rw [if_pos (by show (0 : Int) < i; omega), h2, h3, hn]
    rfl
/-- a row whose first value is a small number or null -/
def SmallRow (r : List Val) : Prop := ∃ a b, r = [a, b] ∧ (a.kind = 0 ∨ (a.kind = 1 ∧ 0 ≤ a.n ∧ a.n ≤ 4))
theorem fillA_small (l : List Int) : ∀ k, ∀ r ∈ fillA l k, SmallRow r
  | 0 => fun r h => absurd h List.not_mem_nil
  | k + 1 => by
    have h1 := fillA_small l k
    unfold fillA
    split
    · intro r hr
      rcases List.mem_append.1 hr with hr | hr
      · exact h1 r hr
      · rw [List.mem_singleton.1 hr]
        refine ⟨_, _, rfl, ?_⟩
        unfold fillV
        split
        · exact Or.inl rfl
        · exact Or.inr ⟨rfl, by show 0 ≤ fillX l k % 5; omega, by show fillX l k % 5 ≤ 4; omega⟩
    · exact h1
/-- a small number -/
def Num (x : Val) : Prop := x.kind = 1 ∧ 0 ≤ x.n ∧ x.n ≤ 4
theorem aF_num {A : List (List Val)} {v : Val} (hA : ∀ r ∈ A, SmallRow r) : ∀ r ∈ aF A v, Num (valAt r 0) := by
  intro r hr
  obtain ⟨h1, h2⟩ := List.mem_filter.1 hr
  obtain ⟨a, b, rfl, h⟩ := hA r h1
  rcases h with h | h
  · exfalso
    have : fitsW tT [condA 4 v] [a, b] = fitsV a 4 v := by
      rw [fitsW_cons, fitsW_nil, Bool.and_true, fitsC_0 (c := condA 4 v) col_ta]
      rfl
    rw [this] at h2
    have h0 : fitsV a 4 v = false := by
      unfold fitsV
      rw [if_pos (Or.inl (by rw [h]; decide))]
    rw [h0] at h2
    cases h2
  · exact h
theorem aM_mem {A : List (List Val)} {v : Val} (hA : ∀ r ∈ A, SmallRow r) : ∀ x ∈ aM A v, ∃ y, x = [y] ∧ Num y ∧ ∃ r ∈ aF A v, valAt r 0 = y := by
  intro x hx
  have : x ∈ (aF A v).map fun r => [valAt r 0] := (List.mergeSort_perm _ _).mem_iff.1 hx
  obtain ⟨r, hr, rfl⟩ := List.mem_map.1 this
  exact ⟨_, rfl, aF_num hA r hr, r, hr, rfl⟩
theorem aM_len (A : List (List Val)) (v : Val) : (aM A v).length = (aF A v).length := by
  unfold aM sortBy
  rw [List.length_mergeSort, List.length_map]
def firstN (r : List Val) : Int := (valAt r 0).n
def sumN (L : List (List Val)) : Int := (L.map firstN).sum
theorem perm_sum {L M : List Int} (h : L.Perm M) : L.sum = M.sum := by
  induction h with
  | nil => rfl
  | cons x _ ih => rw [List.sum_cons, List.sum_cons, ih]
  | swap x y l => rw [List.sum_cons, List.sum_cons, List.sum_cons, List.sum_cons]; omega
  | trans _ _ h1 h2 => exact h1.trans h2
theorem aM_perm (A : List (List Val)) (v : Val) : sumN (aM A v) = sumN (aF A v) := by
  unfold sumN aM sortBy
  rw [perm_sum ((List.mergeSort_perm ((aF A v).map fun r => [valAt r 0]) _).map firstN), List.map_map]
  rfl
theorem aM_sorted (A : List (List Val)) (v : Val) : (aM A v).Pairwise fun a b => cmpR a b ≤ 0 := by
  have h := List.pairwise_mergeSort (le := fun a b : List Val => decide (cmpR a b ≤ 0)) (fun a b c h1 h2 => by simpa using tot_cmpR.trans a b c (by simpa using h1) (by simpa using h2))
    (fun a b => by
      have := tot_cmpR.anti a b
      by_cases h : cmpR a b ≤ 0
      · simp [h]
      · have : cmpR b a < 0 := (tot_cmpR.anti b a).2 (by omega)
        simp; omega) ((aF A v).map fun r => [valAt r 0])
  exact h.imp (by simp)
/-- numbers are compared by their number -/
theorem cmpV_num {a b : Val} (ha : a.kind = 1) (hb : b.kind = 1) : cmpV a b = intC a.n b.n := by
  unfold cmpV
  rw [if_neg (by rw [ha, hb]; exact fun h => h rfl), if_pos (by rw [ha]; rfl)]
  rfl
theorem sum_small {L : List (List Val)} (h : ∀ r ∈ L, Num (valAt r 0)) : 0 ≤ sumN L ∧ sumN L ≤ 4 * L.length := by
  induction L with
  | nil => exact ⟨Int.le_refl _, Int.le_refl _⟩
  | cons r L ih =>
    obtain ⟨h1, h2⟩ := ih fun x hx => h x (List.mem_cons_of_mem _ hx)
    obtain ⟨_, h3, h4⟩ := h r List.mem_cons_self
    have e : sumN (r :: L) = firstN r + sumN L := by unfold sumN; simp
    rw [e]
    unfold firstN
    constructor
    · omega
    · rw [List.length_cons]; omega
theorem fold_sum {L : List (List Val)} (h : ∀ r ∈ L, Num (valAt r 0)) (hl : L.length ≤ 48) : ∀ (out : Val), out.kind = 1 → 0 ≤ out.n → out.n ≤ 1000 → L.foldl (fun out r => aggStep 2 out (valAt r 0)) out = { out with n := out.n + sumN L } := by
  have hall : ∀ (L : List (List Val)), (∀ r ∈ L, Num (valAt r 0)) → ∀ (out : Val), out.kind = 1 → 0 ≤ out.n → out.n + 4 * L.length ≤ 100000 → L.foldl (fun out r => aggStep 2 out (valAt r 0)) out = { out with n := out.n + sumN L } := by
    intro L
    induction L with
    | nil =>
      intro _ out _ _ _
      show out = { out with n := out.n + 0 }
      rw [Int.add_zero]
    | cons r L ih =>
      intro h out h1 h2 h3
      obtain ⟨k1, k2, k3⟩ := h r List.mem_cons_self
      rw [List.length_cons] at h3
      have e : aggStep 2 out (valAt r 0) = { out with n := out.n + (valAt r 0).n } := by
        unfold aggStep
        rw [if_neg (by rw [k1]; decide), if_neg (by rw [h1]; decide), if_pos rfl]
        have : wrap64 (out.n + (valAt r 0).n) = out.n + (valAt r 0).n := by
          unfold wrap64
          omega
        rw [this]
      rw [List.foldl_cons, e, ih (fun x hx => h x (List.mem_cons_of_mem _ hx)) { out with n := out.n + (valAt r 0).n } h1 (by show 0 ≤ out.n + (valAt r 0).n; omega) (by show out.n + (valAt r 0).n + 4 * (L.length : Int) ≤ 100000; omega)]
      have e2 : sumN (r :: L) = firstN r + sumN L := by unfold sumN; simp
      rw [e2]
      unfold firstN
      simp only [Int.add_assoc]
  intro out h1 h2 h3
  exact hall L h out h1 h2 (by omega)
theorem agg_sum {L : List (List Val)} (h : ∀ r ∈ L, Num (valAt r 0)) (hl : L.length ≤ 48) : (aggV 2 L [0] = if L.length = 0 then val0 else { (valAt (L.headD []) 0) with n := sumN L }) := by
  unfold aggV
  rw [if_neg (by decide)]
  cases L with
  | nil => rfl
  | cons r L =>
    rw [if_neg (by simp)]
    obtain ⟨k1, k2, k3⟩ := h r List.mem_cons_self
    show L.foldl (fun out r => aggStep 2 out (valAt r 0)) (aggStep 2 val0 (valAt r 0)) = _
    have e : aggStep 2 val0 (valAt r 0) = valAt r 0 := by
      unfold aggStep
      rw [if_neg (by rw [k1]; decide), if_pos (show val0.kind = 0 from rfl)]
    rw [e, fold_sum (fun x hx => h x (List.mem_cons_of_mem _ hx)) (by rw [List.length_cons] at hl; omega) _ k1 k2 (by omega)]
    have e2 : sumN (r :: L) = firstN r + sumN L := by unfold sumN; simp
    rw [e2]
    rfl
/-- the fold for the least and the greatest: one of the values, and none is beyond it -/
theorem fold_best {i : Int} (hi : i = 3 ∨ i = 4) : ∀ (L : List (List Val)), (∀ r ∈ L, Num (valAt r 0)) → ∀ (out : Val), Num out →
    Num (L.foldl (fun out r => aggStep i out (valAt r 0)) out) ∧ (L.foldl (fun out r => aggStep i out (valAt r 0)) out = out ∨ ∃ r ∈ L, valAt r 0 = L.foldl (fun out r => aggStep i out (valAt r 0)) out) ∧
    (∀ x, (x = out ∨ ∃ r ∈ L, valAt r 0 = x) → if i = 3 then (L.foldl (fun out r => aggStep i out (valAt r 0)) out).n ≤ x.n else x.n ≤ (L.foldl (fun out r => aggStep i out (valAt r 0)) out).n) := by
  intro L
  induction L with
  | nil =>
    intro _ out ho
    refine ⟨ho, Or.inl rfl, fun x hx => ?_⟩
    rcases hx with rfl | ⟨r, hr, _⟩
    · show if i = 3 then x.n ≤ x.n else x.n ≤ x.n
      split <;> exact Int.le_refl _
    · exact absurd hr List.not_mem_nil
  | cons r L ih =>
    intro h out ho
    have hr := h r List.mem_cons_self
    have hs : (aggStep i out (valAt r 0) = out ∨ aggStep i out (valAt r 0) = valAt r 0) ∧ (if i = 3 then (aggStep i out (valAt r 0)).n ≤ out.n ∧ (aggStep i out (valAt r 0)).n ≤ (valAt r 0).n else out.n ≤ (aggStep i out (valAt r 0)).n ∧ (valAt r 0).n ≤ (aggStep i out (valAt r 0)).n) := by
      unfold aggStep
      rw [if_neg (by rw [hr.1]; decide), if_neg (by rw [ho.1]; decide), if_neg (by omega), cmpV_num hr.1 ho.1]
      rcases intC_cases (valAt r 0).n out.n with ⟨c1, c2⟩ | ⟨c1, c2⟩ | ⟨c1, c2⟩ <;> rw [c2] <;> rcases hi with rfl | rfl <;> simp <;> omega
    have hn : Num (aggStep i out (valAt r 0)) := by rcases hs.1 with e | e <;> rw [e]; exact ho; exact hr
    obtain ⟨h1, h2, h3⟩ := ih (fun x hx => h x (List.mem_cons_of_mem _ hx)) _ hn
    rw [List.foldl_cons]
    refine ⟨h1, ?_, fun x hx => ?_⟩
    · rcases h2 with h2 | ⟨q, hq, h2⟩
      · rcases hs.1 with e | e
        · left; rw [h2, e]
        · right; exact ⟨r, List.mem_cons_self, by rw [h2, e]⟩
      · right; exact ⟨q, List.mem_cons_of_mem _ hq, h2⟩
    · have h4 := h3 _ (Or.inl rfl)
      have h5 := hs.2
      rcases hx with rfl | ⟨q, hq, rfl⟩
      · rcases hi with rfl | rfl
        · rw [if_pos rfl] at h4 h5 ⊢; omega
        · rw [if_neg (by decide)] at h4 h5 ⊢; omega
      · rcases List.mem_cons.1 hq with rfl | hq
        · rcases hi with rfl | rfl
          · rw [if_pos rfl] at h4 h5 ⊢; omega
          · rw [if_neg (by decide)] at h4 h5 ⊢; omega
        · exact h3 _ (Or.inr ⟨q, hq, rfl⟩)
theorem agg_best {i : Int} (hi : i = 3 ∨ i = 4) {L : List (List Val)} (h : ∀ r ∈ L, Num (valAt r 0)) (h0 : 0 < L.length) :
    Num (aggV i L [0]) ∧ (∃ r ∈ L, valAt r 0 = aggV i L [0]) ∧ ∀ r ∈ L, if i = 3 then (aggV i L [0]).n ≤ (valAt r 0).n else (valAt r 0).n ≤ (aggV i L [0]).n := by
  unfold aggV
  rw [if_neg (by omega)]
  cases L with
  | nil => cases h0
  | cons r L =>
    have hr := h r List.mem_cons_self
    have e : aggStep i val0 (valAt r 0) = valAt r 0 := by
      unfold aggStep
      rw [if_neg (by rw [hr.1]; decide), if_pos (show val0.kind = 0 from rfl)]
    show Num (L.foldl (fun out r => aggStep i out (valAt r 0)) (aggStep i val0 (valAt r 0))) ∧ (∃ q ∈ r :: L, valAt q 0 = L.foldl (fun out r => aggStep i out (valAt r 0)) (aggStep i val0 (valAt r 0))) ∧ ∀ q ∈ r :: L, if i = 3 then (L.foldl (fun out r => aggStep i out (valAt r 0)) (aggStep i val0 (valAt r 0))).n ≤ (valAt q 0).n else (valAt q 0).n ≤ (L.foldl (fun out r => aggStep i out (valAt r 0)) (aggStep i val0 (valAt r 0))).n
    rw [e]
    obtain ⟨h1, h2, h3⟩ := fold_best hi L (fun x hx => h x (List.mem_cons_of_mem _ hx)) _ hr
    refine ⟨h1, ?_, fun q hq => ?_⟩
    · rcases h2 with h2 | ⟨q, hq, h2⟩
      · exact ⟨r, List.mem_cons_self, h2.symm⟩
      · exact ⟨q, List.mem_cons_of_mem _ hq, h2⟩
    · rcases List.mem_cons.1 hq with rfl | hq
      · exact h3 _ (Or.inl rfl)
      · exact h3 _ (Or.inr ⟨q, hq, rfl⟩)
/-- what the law wants of each aggregate -/
def wantV (M : List (List Val)) (i : Nat) : Val :=
  if i = 0 then ⟨1, M.length, noStr⟩ else if M.length = 0 then val0 else if i = 1 then ⟨1, sumN M, noStr⟩ else if i = 2 then valAt (M.headD []) 0 else valAt (M.getLastD []) 0
theorem cmpR_one {a b : Val} (h : cmpV a b = 0) : cmpR [a] [b] = 0 := by
  unfold cmpR
  rw [if_pos h]
  rfl
theorem cmpV_eq {a b : Val} (ha : a.kind = 1) (hb : b.kind = 1) (h : a.n = b.n) : cmpV a b = 0 := by
  rw [cmpV_num ha hb, h]
  rcases intC_cases b.n b.n with ⟨c, _⟩ | ⟨_, c⟩ | ⟨c, _⟩
  · omega
  · exact c
  · omega
theorem want_law {A : List (List Val)} {v : Val} (hA : ∀ r ∈ A, SmallRow r) (hl : A.length ≤ 48) (i : Nat) (hi : i < 4) : cmpR [aggV (i + 1) (aF A v) [0]] [wantV (aM A v) i] = 0 := by
  apply cmpR_one
  have hN := aF_num (v := v) hA
  have hlF : (aF A v).length ≤ 48 := Nat.le_trans (List.length_filter_le _ _) hl
  have hlen := aM_len A v
  unfold wantV
  rcases (show i = 0 ∨ i = 1 ∨ i = 2 ∨ i = 3 by omega) with rfl | rfl | rfl | rfl
  · rw [if_pos rfl]
    unfold aggV
    rw [if_pos (show ((0 : Nat) : Int) + 1 = 1 from rfl), hlen]
    exact cmpV_eq rfl rfl rfl
  · rw [if_neg (by decide), show ((1 : Nat) : Int) + 1 = 2 from rfl, agg_sum hN hlF, hlen]
    by_cases h0 : (aF A v).length = 0
    · rw [if_pos h0, if_pos h0]; rfl
    · rw [if_neg h0, if_neg h0, if_pos rfl, aM_perm]
      refine cmpV_eq ?_ rfl rfl
      show (valAt ((aF A v).headD []) 0).kind = 1
      cases hF : aF A v with
      | nil => rw [hF] at h0; exact absurd rfl h0
      | cons r L => exact (hN r (by rw [hF]; exact List.mem_cons_self)).1
  · rw [if_neg (by decide), show ((2 : Nat) : Int) + 1 = 3 from rfl, hlen]
    by_cases h0 : (aF A v).length = 0
    · rw [if_pos h0, List.eq_nil_of_length_eq_zero h0]; rfl
    · rw [if_neg h0, if_neg (by decide), if_pos rfl]
      obtain ⟨h1, ⟨r, hr, h2⟩, h3⟩ := agg_best (Or.inl rfl) hN (by omega)
      cases hM : aM A v with
      | nil => rw [hM] at hlen; exact absurd hlen.symm h0
      | cons x M =>
        obtain ⟨y, rfl, hy, q, hq, hqy⟩ := aM_mem (v := v) hA x (by rw [hM]; exact List.mem_cons_self)
        show cmpV (aggV 3 (aF A v) [0]) y = 0
        have g1 := h3 q hq
        rw [if_pos rfl, hqy] at g1
        have hs := aM_sorted A v
        rw [hM] at hs
        have hmem : [valAt r 0] ∈ aM A v := (List.mergeSort_perm _ _).mem_iff.2 (List.mem_map.2 ⟨r, hr, rfl⟩)
        rw [hM] at hmem
        refine cmpV_eq h1.1 hy.1 ?_
        rcases List.mem_cons.1 hmem with e | e
        · have : valAt r 0 = y := by simpa using e
          rw [← this, h2]
        · have g2 : cmpR [y] [valAt r 0] ≤ 0 := (List.pairwise_cons.1 hs).1 _ e
          unfold cmpR at g2
          rw [cmpV_num hy.1 (by rw [h2]; exact h1.1), h2] at g2
          rcases intC_cases y.n (aggV 3 (aF A v) [0]).n with ⟨c1, c2⟩ | ⟨c1, c2⟩ | ⟨c1, c2⟩ <;> rw [c2] at g2 <;> simp at g2 <;> omega
  · rw [if_neg (by decide), show ((3 : Nat) : Int) + 1 = 4 from rfl, hlen]
    by_cases h0 : (aF A v).length = 0
    · rw [if_pos h0, List.eq_nil_of_length_eq_zero h0]; rfl
    · rw [if_neg h0, if_neg (by decide), if_neg (by decide)]
      obtain ⟨h1, ⟨r, hr, h2⟩, h3⟩ := agg_best (Or.inr rfl) hN (by omega)
      have hne : aM A v ≠ [] := by intro e; rw [e] at hlen; exact h0 hlen.symm
      rw [List.getLastD_eq_getLast?, List.getLast?_eq_some_getLast hne]
      show cmpV (aggV 4 (aF A v) [0]) (valAt ((aM A v).getLast hne) 0) = 0
      obtain ⟨y, e, hy, q, hq, hqy⟩ := aM_mem (v := v) hA _ (List.getLast_mem hne)
      rw [e]
      show cmpV (aggV 4 (aF A v) [0]) y = 0
      have g1 := h3 q hq
      rw [if_neg (by decide), hqy] at g1
      have hs := aM_sorted A v
      have hmem : [valAt r 0] ∈ aM A v := (List.mergeSort_perm _ _).mem_iff.2 (List.mem_map.2 ⟨r, hr, rfl⟩)
      refine cmpV_eq h1.1 hy.1 ?_
      rw [← List.dropLast_concat_getLast hne, e] at hs hmem
      rcases List.mem_append.1 hmem with m | m
      · have g2 : cmpR [valAt r 0] [y] ≤ 0 := (List.pairwise_append.1 hs).2.2 _ m _ List.mem_cons_self
        unfold cmpR at g2
        rw [cmpV_num (by rw [h2]; exact h1.1) hy.1, h2] at g2
        rcases intC_cases (aggV 4 (aF A v) [0]).n y.n with ⟨c1, c2⟩ | ⟨c1, c2⟩ | ⟨c1, c2⟩ <;> rw [c2] at g2 <;> simp at g2 <;> omega
      · have : valAt r 0 = y := by simpa using m
        rw [← this, h2]
end Go.Proofs.YtgemihkcihigpaaGreatDoor
