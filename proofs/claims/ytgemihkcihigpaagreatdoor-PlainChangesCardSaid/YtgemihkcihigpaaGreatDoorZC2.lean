/- PlainAggregates, plain: what the aggregates are, told from the sorted list of the column's. -/
import Derived.Test.YtgemihkcihigpaaGreatDoorZB11
set_option linter.unusedVariables false
set_option linter.unusedSimpArgs false
namespace Go.Proofs.YtgemihkcihigpaaGreatDoor
section
open Go Go.RowKit
def selA (v : Val) : Stmt := { stmt0 with kind := 7, table := sT, names := [sA], wher := [condA 4 v] }
def aggS (i : Int) (L : List ByteArray) (v : Val) : Stmt := { stmt0 with kind := 7, table := sT, agg := i, names := L, wher := [condA 4 v] }
def aF (A : List (List Val)) (v : Val) : List (List Val) := A.filter (fitsW tT [condA 4 v])
def aM (A : List (List Val)) (v : Val) : List (List Val) := sortBy cmpR ((aF A v).map fun r => [valAt r 0])
def SmallRow (r : List Val) : Prop := ∃ a b, r = [a, b] /\ (a.kind = 0 \/ (a.kind = 1 /\ 0 <= a.n /\ a.n <= 4))
theorem fillA_small (l : List Int) : ∀ k, ∀ r ∈ fillA l k, SmallRow r
 | 0 => fun r h => absurd h List.not_mem_nil
 | k + 1 => by
  have h1 := fillA_small l k
  unfold fillA
  split
  · intro r hr
    rcases List.mem_append.1 hr with hr | hr
    · exact h1 r hr
    · rw [List.mem_singleton.1 hr]
      refine ⟨_, _, rfl, ?_⟩
      unfold fillV
      split
      · exact Or.inl rfl
      · exact Or.inr ⟨rfl, by show 0 <= fillX l k % 5; omega, by show fillX l k % 5 <= 4; omega⟩
  · exact h1
def Num (x : Val) : Prop := x.kind = 1 /\ 0 <= x.n /\ x.n <= 4
def firstN (r : List Val) : Int := (valAt r 0).n
def sumN (L : List (List Val)) : Int := (L.map firstN).sum
theorem fold_sum {L : List (List Val)} (h : ∀ r ∈ L, Num (valAt r 0)) (hl : L.length <= 48) : ∀ (out : Val), out.kind = 1 -> 0 <= out.n -> out.n <= 1000 -> L.foldl (fun out r => aggStep 2 out (valAt r 0)) out = { out with n := out.n + sumN L } := by
 have hall : ∀ (L : List (List Val)), (∀ r ∈ L, Num (valAt r 0)) -> ∀ (out : Val), out.kind = 1 -> 0 <= out.n -> out.n + 4 * L.length <= 100000 -> L.foldl (fun out r => aggStep 2 out (valAt r 0)) out = { out with n := out.n + sumN L } := by
  intro L
  induction L with
  | nil =>
   intro _ out _ _ _
   show out = { out with n := out.n + 0 }
   rw [Int.add_zero]
  | cons r L ih =>
   intro h out h1 h2 h3
   obtain ⟨k1, k2, k3⟩ := h r List.mem_cons_self
   rw [List.length_cons] at h3
   have e : aggStep 2 out (valAt r 0) = { out with n := out.n + (valAt r 0).n } := by
    unfold aggStep
    rw [if_neg (by rw [k1]; decide), if_neg (by rw [h1]; decide), if_pos rfl]
    have : wrap64 (out.n + (valAt r 0).n) = out.n + (valAt r 0).n := by
     unfold wrap64
     omega
    rw [this]
   rw [List.foldl_cons, e, ih (fun x hx => h x (List.mem_cons_of_mem _ hx)) { out with n := out.n + (valAt r 0).n } h1 (by show 0 <= out.n + (valAt r 0).n; omega) (by show out.n + (valAt r 0).n + 4 * (L.length : Int) <= 100000; omega)]
   have e2 : sumN (r :: L) = firstN r + sumN L := by unfold sumN; simp
   rw [e2]
   unfold firstN
   simp only [Int.add_assoc]
 intro out h1 h2 h3
 exact hall L h out h1 h2 (by omega)
theorem agg_sum {L : List (List Val)} (h : ∀ r ∈ L, Num (valAt r 0)) (hl : L.length <= 48) : (aggV 2 L [0] = if L.length = 0 then val0 else { (valAt (L.headD []) 0) with n := sumN L }) := by
 unfold aggV
 rw [if_neg (by decide)]
 cases L with
 | nil => rfl
 | cons r L =>
  rw [if_neg (by simp)]
  obtain ⟨k1, k2, k3⟩ := h r List.mem_cons_self
  show L.foldl (fun out r => aggStep 2 out (valAt r 0)) (aggStep 2 val0 (valAt r 0)) = _
  have e : aggStep 2 val0 (valAt r 0) = valAt r 0 := by
   unfold aggStep
   rw [if_neg (by rw [k1]; decide), if_pos (show val0.kind = 0 from rfl)]
  rw [e, fold_sum (fun x hx => h x (List.mem_cons_of_mem _ hx)) (by rw [List.length_cons] at hl; omega) _ k1 k2 (by omega)]
  have e2 : sumN (r :: L) = firstN r + sumN L := by unfold sumN; simp
  rw [e2]
  rfl
def wantV (M : List (List Val)) (i : Nat) : Val :=
 if i = 0 then ⟨1, M.length, noStr⟩ else if M.length = 0 then val0 else if i = 1 then ⟨1, sumN M, noStr⟩ else if i = 2 then valAt (M.headD []) 0 else valAt (M.getLastD []) 0
end
section
open Go Go.RowKit
def joS : Stmt := { stmt0 with kind := 7, table := sT, names := [sB, sA, sC], join := sU, left := sB, right := sB, order := [sC, sA] }
def badS (j l : ByteArray) : Stmt := { stmt0 with kind := 7, table := sT, names := [sB], join := j, left := l, right := sB }
def tTU : Tab := { tT with cols := colsT ++ colsU }
def joR (A B : List (List Val)) : List (List Val) := joinR A B 1 0
def joK (A B : List (List Val)) : List (List Val) := sortBy cmpR ((joR A B).map fun r => ([3, 0, 1, 0, 3] : List Int).map (valAt r))
def joM (A B : List (List Val)) : List (List Val) := (joK A B).map (·.drop 2)
def JV (v : Val) : Prop := v = val0 \/ v = tx (xyzB 0) \/ v = tx (xyzB 1) \/ v = tx (xyzB 2)
def JRowT (r : List Val) : Prop := ∃ a b, r = [a, b] /\ JV b
def JRowU (r : List Val) : Prop := ∃ b a, r = [b, a] /\ JV b
theorem fillT_jv (x : Int) : JV (fillT x) := by
 unfold fillT
 split
 · exact Or.inl rfl
 · unfold xyzB
   split
   · exact Or.inr (Or.inl rfl)
   · split
     · exact Or.inr (Or.inr (Or.inl rfl))
     · exact Or.inr (Or.inr (Or.inr rfl))
theorem fillA_jv (l : List Int) : ∀ k, ∀ r ∈ fillA l k, JRowT r
 | 0 => fun r h => absurd h List.not_mem_nil
 | k + 1 => by
  have h1 := fillA_jv l k
  unfold fillA
  split
  · intro r hr
    rcases List.mem_append.1 hr with hr | hr
    · exact h1 r hr
    · rw [List.mem_singleton.1 hr]
      exact ⟨_, _, rfl, fillT_jv _⟩
  · exact h1
def eqJ (b : Val) (j : Nat) : Bool := fitsV b 1 (tx (xyzB j))
theorem fits_0 (b : Val) : fitsV val0 1 b = false := by
 unfold fitsV
 exact if_pos (Or.inl rfl)
def cA (A : List (List Val)) (j : Nat) : Nat := (A.filter fun r => eqJ (valAt r 1) j).length
def cB (B : List (List Val)) (j : Nat) : Nat := (B.filter fun r => eqJ (valAt r 0) j).length
def pairsTo (A B : List (List Val)) : Nat -> Nat
 | 0 => 0
 | k + 1 => pairsTo A B k + cA A k * cB B k
end
end Go.Proofs.YtgemihkcihigpaaGreatDoor
