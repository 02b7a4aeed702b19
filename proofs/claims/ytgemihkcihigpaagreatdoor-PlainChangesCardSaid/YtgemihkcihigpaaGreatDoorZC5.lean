/- PlainChanges, plain: what an update, a delete and an insert leave of the filled state. -/
import Derived.Test.YtgemihkcihigpaaGreatDoorZB33
import Derived.Test.YtgemihkcihigpaaGreatDoorZC1
import Derived.Test.YtgemihkcihigpaaGreatDoorZC2
set_option linter.unusedVariables false
set_option linter.unusedSimpArgs false
namespace Go.Proofs.YtgemihkcihigpaaGreatDoor
section
open Go Go.RowKit
def sNew : ByteArray := ⟨#[110, 101, 119]⟩
def chW (v : Val) : List Cond := [condA 6 v]
def newW : List Cond := [condB 1 (tx sNew)]
def updC (add : Int) (v : Val) : Stmt := { stmt0 with kind := 5, table := sT, sets := [⟨sA, sA, ⟨1, add, noStr⟩⟩, ⟨sB, noStr, tx sNew⟩], wher := chW v }
def delC (W : List Cond) : Stmt := { stmt0 with kind := 6, table := sT, wher := W }
def sumC (W : List Cond) : Stmt := { stmt0 with kind := 7, table := sT, agg := 2, names := [sA], wher := W }
def chR (add : Int) (v : Val) (r : List Val) : List Val := if fitsW tT (chW v) r then [⟨1, wrap64 ((valAt r 0).n + add), (valAt r 0).s⟩, tx sNew] else r
def chA (add : Int) (v : Val) (A : List (List Val)) : List (List Val) := A.map (chR add v)
def leftC (v : Val) (A : List (List Val)) : List (List Val) := A.filter fun r => !fitsW tT (chW v) r
def fitC (v : Val) (A : List (List Val)) : List (List Val) := A.filter (fitsW tT (chW v))
theorem lacks_ch (v : Val) : lacksB tT (chW v) = false := lacks_cons (by show 0 <= colOf tT sA; rw [col_ta]; decide) (lacks_nil _)
theorem lacks_new : lacksB tT newW = false := lacks_cons (by show 0 <= colOf tT sB; rw [col_tb]; decide) (lacks_nil _)
def CRow (r : List Val) : Prop := ∃ a b, r = [a, b] /\ (a.kind = 0 \/ (a.kind = 1 /\ 0 <= a.n /\ a.n <= 4)) /\ JV b
theorem fillA_crow (l : List Int) (k : Nat) : ∀ r ∈ fillA l k, CRow r := by
 intro r hr
 obtain ⟨a, b, rfl, h1⟩ := fillA_small l k r hr
 obtain ⟨a', b', e, h2⟩ := fillA_jv l k _ hr
 simp only [List.cons.injEq, and_true] at e
 obtain ⟨rfl, rfl⟩ := e
 exact ⟨a, b, rfl, h1, h2⟩
theorem fits_row {v a b : Val} : fitsW tT (chW v) [a, b] = fitsV a 6 v := by
 show (fitsC tT [a, b] (condA 6 v) && true) = _
 rw [Bool.and_true, fitsC_0 (c := condA 6 v) col_ta]
 rfl
theorem fits_num {v a b : Val} (h : fitsW tT (chW v) [a, b] = true) : a.kind ≠ 0 := by
 intro h0
 rw [fits_row] at h
 have : fitsV a 6 v = false := by
  unfold fitsV
  rw [if_pos (Or.inl (by rw [h0]; decide))]
 rw [this] at h
 cases h
theorem new_row {a b : Val} : fitsW tT newW [a, b] = fitsV b 1 (tx sNew) := by
 show (fitsC tT [a, b] (condB 1 (tx sNew)) && true) = _
 rw [Bool.and_true, fitsC_1 (c := condB 1 (tx sNew)) col_tb]
 rfl
theorem new_not {b : Val} (h : JV b) : fitsV b 1 (tx sNew) = false := by
 rcases h with rfl | rfl | rfl | rfl
 · exact fits_0 _
 · rfl
 · rfl
 · rfl
theorem new_yes : fitsV (tx sNew) 1 (tx sNew) = true := rfl
theorem ch_new {add : Int} {v : Val} {r : List Val} (h : CRow r) : fitsW tT newW (chR add v r) = fitsW tT (chW v) r := by
 obtain ⟨a, b, rfl, _, hb⟩ := h
 unfold chR
 by_cases hf : fitsW tT (chW v) [a, b] = true
 · rw [if_pos hf, hf, new_row]
   exact new_yes
 · rw [if_neg hf, new_row, new_not hb]
   simpa using hf
theorem ch_changed {add : Int} {v : Val} {r : List Val} (h : CRow r) (hf : fitsW tT (chW v) r = true) : changedV tT r (updC add v).sets = chR add v r := by
 obtain ⟨a, b, rfl, ha, _⟩ := h
 have hk : a.kind = 1 := by
  rcases ha with h0 | h1
  · exact absurd h0 (fits_num hf)
  · exact h1.1
 unfold chR
 rw [if_pos hf]
 show changedV tT [a, b] [⟨sA, sA, ⟨1, add, noStr⟩⟩, ⟨sB, noStr, tx sNew⟩] = _
 unfold changedV
 rw [List.foldl_cons, List.foldl_cons, List.foldl_nil, col_ta, col_tb]
 have e1 : newV tT [a, b] ⟨sA, sA, ⟨1, add, noStr⟩⟩ = ⟨1, wrap64 (a.n + add), a.s⟩ := by
  unfold newV
  rw [if_neg (by show ¬ strNil sA = true; decide), col_ta, if_pos (show (valAt [a, b] 0).kind = 1 from hk)]
  show ({ a with n := wrap64 (a.n + add) } : Val) = _
  rw [hk]
 have e2 : newV tT [a, b] ⟨sB, noStr, tx sNew⟩ = tx sNew := by
  unfold newV
  rw [if_pos (show strNil noStr = true from rfl)]
 rw [e1, e2]
 rfl
theorem ch_rows {add : Int} {v : Val} {A B : List (List Val)} (hA : ∀ r ∈ A, CRow r) : changeRows (twoS A B) (updC add v) = chA add v A := by
 unfold changeRows chA
 rw [show (updC add v).table = sT from rfl, findT_t]
 show A.filterMap (changeR tT (updC add v)) = A.map (chR add v)
 induction A with
 | nil => rfl
 | cons r A ih =>
  have hr := hA r List.mem_cons_self
  have e : changeR tT (updC add v) r = some (chR add v r) := by
   unfold changeR
   by_cases hf : fitsW tT (chW v) r = true
   · rw [show (updC add v).wher = chW v from rfl, hf, if_neg (by decide), if_pos (show (updC add v).kind = 5 from rfl), ch_changed hr hf]
   · have hf' : fitsW tT (chW v) r = false := by simpa using hf
     rw [show (updC add v).wher = chW v from rfl, hf', if_pos (show (!false) = true from rfl)]
     unfold chR
     rw [if_neg hf]
  rw [List.filterMap_cons_some e, List.map_cons, ih fun x hx => hA x (List.mem_cons_of_mem _ hx)]
theorem upd_law {add : Int} {v : Val} {A B : List (List Val)} (hA : ∀ r ∈ A, CRow r) : stepS (twoS A B) (updC add v) = twoS (chA add v A) B /\ stepA (twoS A B) (updC add v) = ⟨0, [], (fitC v A).length⟩ := by
 have hs : setsE tT (updC add v).sets = 0 := by
  show setsFrom tT [] [⟨sA, sA, ⟨1, add, noStr⟩⟩, ⟨sB, noStr, tx sNew⟩] = 0
  unfold setsFrom setE setsFrom setE
  simp only [col_ta, col_tb, sEq_fun]
  rfl
 have e : stepE (twoS A B) (updC add v) = 0 := by
  rw [stepE_chg (Or.inl rfl)]
  unfold changeE
  rw [show (updC add v).table = sT from rfl, findT_t, if_neg (by decide)]
  show (if (updC add v).kind = 5 /\ setsE tT (updC add v).sets ≠ 0 then setsE tT (updC add v).sets else if lacksB tT (updC add v).wher then 50 else 0) = 0
  rw [hs, show (updC add v).wher = chW v from rfl, lacks_ch, if_neg (by simp)]
  rfl
 refine ⟨?_, ?_⟩
 · rw [stepS_chg (Or.inl rfl) e]
   unfold changeS
   rw [ch_rows hA, show (updC add v).table = sT from rfl, findT_t]
   rfl
 · rw [stepA_chg (Or.inl rfl) e]
   have hc : changeN (twoS A B) (updC add v) = (fitC v A).length := by
    unfold changeN
    rw [show (updC add v).table = sT from rfl, findT_t]
    show A.countP (fitsW tT (chW v)) = _
    rw [List.countP_eq_length_filter]
    rfl
   rw [hc]
theorem del_law {W : List Cond} (hW : lacksB tT W = false) (A B : List (List Val)) : stepS (twoS A B) (delC W) = twoS (A.filter fun r => !fitsW tT W r) B /\ stepA (twoS A B) (delC W) = ⟨0, [], (A.filter (fitsW tT W)).length⟩ := by
 have e : stepE (twoS A B) (delC W) = 0 := by
  rw [stepE_chg (Or.inr rfl)]
  unfold changeE
  rw [show (delC W).table = sT from rfl, findT_t, if_neg (by decide), if_neg (fun h => absurd (show (6 : Int) = 5 from h.1) (by decide))]
  show (if lacksB tT W then 50 else 0) = 0
  rw [hW]
  rfl
 refine ⟨?_, ?_⟩
 · rw [stepS_chg (Or.inr rfl) e]
   unfold changeS
   have hr : changeRows (twoS A B) (delC W) = A.filter fun r => !fitsW tT W r := by
    unfold changeRows
    rw [show (delC W).table = sT from rfl, findT_t]
    show A.filterMap (changeR tT (delC W)) = _
    clear e
    induction A with
    | nil => rfl
    | cons r A ih =>
     have hd : changeR tT (delC W) r = if fitsW tT W r = true then none else some r := by
      unfold changeR
      rw [show (delC W).wher = W from rfl]
      by_cases hf : fitsW tT W r = true
      · rw [hf, if_neg (by decide), if_neg (show ¬ (delC W).kind = 5 by show ¬ (6 : Int) = 5; decide)]; rfl
      · have hf' : fitsW tT W r = false := by simpa using hf
        rw [hf', if_pos (show (!false) = true from rfl)]; rfl
     by_cases hf : fitsW tT W r = true
     · rw [if_pos hf] at hd
       rw [List.filterMap_cons_none hd, List.filter_cons_of_neg (by simp [hf]), ih]
     · rw [if_neg hf] at hd
       rw [List.filterMap_cons_some hd, List.filter_cons_of_pos (by simp [hf]), ih]
   rw [hr, show (delC W).table = sT from rfl, findT_t]
   rfl
 · rw [stepA_chg (Or.inr rfl) e]
   have hc : changeN (twoS A B) (delC W) = (A.filter (fitsW tT W)).length := by
    unfold changeN
    rw [show (delC W).table = sT from rfl, findT_t]
    show A.countP (fitsW tT W) = _
    rw [List.countP_eq_length_filter]
   rw [hc]
theorem new_len {add : Int} {v : Val} {A : List (List Val)} (hA : ∀ r ∈ A, CRow r) : ((chA add v A).filter (fitsW tT newW)).length = (fitC v A).length := by
 unfold chA fitC
 rw [List.filter_map, List.length_map]
 congr 1
 exact List.filter_congr fun r hr => ch_new (hA r hr)
theorem left_new {add : Int} {v : Val} {A : List (List Val)} (hA : ∀ r ∈ A, CRow r) : (chA add v A).filter (fun r => !fitsW tT newW r) = leftC v A := by
 unfold chA leftC
 rw [List.filter_map]
 have e : A.filter ((fun r => !fitsW tT newW r) ∘ chR add v) = A.filter fun r => !fitsW tT (chW v) r :=
  List.filter_congr fun r hr => by
   show (!fitsW tT newW (chR add v r)) = _
   rw [ch_new (hA r hr)]
 rw [e]
 refine (List.map_congr_left fun r hr => ?_).trans (List.map_id _)
 have := (List.mem_filter.1 hr).2
 unfold chR
 rw [if_neg (by simpa using this)]
 rfl
theorem left_len (v : Val) (A : List (List Val)) : (leftC v A).length + (fitC v A).length = A.length := by
 unfold leftC fitC
 induction A with
 | nil => rfl
 | cons r A ih =>
  by_cases h : fitsW tT (chW v) r = true
  · rw [List.filter_cons_of_neg (by simp [h]), List.filter_cons_of_pos h, List.length_cons, List.length_cons]; omega
  · rw [List.filter_cons_of_pos (by simp [h]), List.filter_cons_of_neg h, List.length_cons, List.length_cons]; omega
theorem sumC_law {W : List Cond} (hW : lacksB tT W = false) (A B : List (List Val)) : stepA (twoS A B) (sumC W) = ⟨0, [[aggV 2 (A.filter (fitsW tT W)) [0]]], 1⟩ := by
 obtain ⟨h1, h2, h3⟩ := san_from (st := sumC W) rfl rfl A B
 have hn : (sumC W).names.map (colOf tT) = [0] := by show [colOf tT sA] = [0]; rw [col_ta]
 have e : stepE (twoS A B) (sumC W) = 0 := by
  rw [stepE_qry rfl]
  unfold queryE
  rw [if_neg (by show ¬ ((2 : Int) < 0 \/ (4 : Int) < 2 \/ ((0 : Int) < 2 /\ (1 : Int) ≠ if (1 : Int) < 2 then 1 else 0)); decide), h1, h2, hn, show (sumC W).wher = W from rfl, hW]
  rfl
 rw [stepA_qry rfl e]
 unfold queryA
 rw [if_pos (by show (0 : Int) < 2; decide), h2, h3, hn]
 rfl
theorem wrap_wrap (x y : Int) : wrap64 (wrap64 x + wrap64 y) = wrap64 (x + y) := by
 unfold wrap64
 omega
theorem wrap_right (x y : Int) : wrap64 (x + wrap64 y) = wrap64 (x + y) := by
 unfold wrap64
 omega
theorem fit_num {v : Val} {A : List (List Val)} (hA : ∀ r ∈ A, CRow r) : ∀ r ∈ fitC v A, Num (valAt r 0) := by
 intro r hr
 obtain ⟨h1, h2⟩ := List.mem_filter.1 hr
 obtain ⟨a, b, rfl, h, _⟩ := hA r h1
 rcases h with h | h
 · exact absurd h (fits_num h2)
 · exact h
theorem fold_ch {add : Int} {v : Val} : ∀ (L : List (List Val)), (∀ r ∈ L, fitsW tT (chW v) r = true) -> ∀ (out : Val) (x : Int), out.kind = 1 -> out.n = wrap64 x ->
 ((L.map (chR add v)).foldl (fun out r => aggStep 2 out (valAt r 0)) out).n = wrap64 (x + sumN L + (L.length : Int) * add)
 | [], _, out, x, _, h => by
  show out.n = wrap64 (x + 0 + 0 * add)
  rw [Int.zero_mul, Int.add_zero, Int.add_zero, h]
 | r :: L, hL, out, x, hk, h => by
  have hr := hL r List.mem_cons_self
  have e : aggStep 2 out (valAt (chR add v r) 0) = { out with n := wrap64 (out.n + wrap64 ((valAt r 0).n + add)) } := by
   unfold chR
   rw [if_pos hr]
   show aggStep 2 out ⟨1, wrap64 ((valAt r 0).n + add), (valAt r 0).s⟩ = _
   unfold aggStep
   rw [if_neg (show ¬ (1 : Int) = 0 by decide), if_neg (by rw [hk]; decide), if_pos rfl]
  rw [List.map_cons, List.foldl_cons, e, fold_ch L (fun y hy => hL y (List.mem_cons_of_mem _ hy)) { out with n := wrap64 (out.n + wrap64 ((valAt r 0).n + add)) } (x + ((valAt r 0).n + add)) hk (by show wrap64 (out.n + wrap64 ((valAt r 0).n + add)) = _; rw [h, wrap_wrap])]
  have e2 : sumN (r :: L) = (valAt r 0).n + sumN L := by unfold sumN; simp [firstN]
  rw [e2, List.length_cons, Int.natCast_add, Int.add_mul]
  congr 1
  omega
theorem sum_law {add : Int} {v : Val} {A : List (List Val)} (hA : ∀ r ∈ A, CRow r) (hl : A.length <= 48) :
 (fitC v A).length = 0 \/ (aggV 2 ((chA add v A).filter (fitsW tT newW)) [0]).n = wrap64 ((aggV 2 (fitC v A) [0]).n + wrap64 (add * ((fitC v A).length : Int))) := by
 have hf : (chA add v A).filter (fitsW tT newW) = (fitC v A).map (chR add v) := by
  unfold chA fitC
  rw [List.filter_map]
  congr 1
  exact List.filter_congr fun r hr => ch_new (hA r hr)
 rw [hf]
 have hN := fit_num (v := v) hA
 have hF : ∀ r ∈ fitC v A, fitsW tT (chW v) r = true := fun r hr => (List.mem_filter.1 hr).2
 have hlF : (fitC v A).length <= 48 := Nat.le_trans (List.length_filter_le _ _) hl
 rw [agg_sum hN hlF]
 generalize fitC v A = F at *
 cases F with
 | nil => exact Or.inl rfl
 | cons r L =>
  right
  rw [if_neg (by simp)]
  show _ = wrap64 (sumN (r :: L) + wrap64 (add * (((r :: L).length : Nat) : Int)))
  rw [wrap_right]
  have hr := hF r List.mem_cons_self
  show ((L.map (chR add v)).foldl (fun out r => aggStep 2 out (valAt r 0)) (aggStep 2 val0 (valAt (chR add v r) 0))).n = _
  have e : aggStep 2 val0 (valAt (chR add v r) 0) = ⟨1, wrap64 ((valAt r 0).n + add), (valAt r 0).s⟩ := by
   unfold chR
   rw [if_pos hr]
   show aggStep 2 val0 ⟨1, wrap64 ((valAt r 0).n + add), (valAt r 0).s⟩ = _
   unfold aggStep
   rw [if_neg (show ¬ (1 : Int) = 0 by decide), if_pos (show val0.kind = 0 from rfl)]
  rw [e, fold_ch L (fun y hy => hF y (List.mem_cons_of_mem _ hy)) _ ((valAt r 0).n + add) rfl rfl]
  have e2 : sumN (r :: L) = (valAt r 0).n + sumN L := by unfold sumN; simp [firstN]
  rw [e2, List.length_cons, Int.natCast_add, Int.mul_comm add, Int.add_mul]
  congr 1
  omega
theorem crow_len {r : List Val} (h : CRow r) : r.length = 2 := by
 obtain ⟨a, b, rfl, _⟩ := h
 rfl
theorem chA_len (add : Int) (v : Val) (A : List (List Val)) : (chA add v A).length = A.length := List.length_map _
theorem chA_wid {add : Int} {v : Val} {A : List (List Val)} (hA : ∀ r ∈ A, CRow r) : ∀ r ∈ chA add v A, r.length = 2 := by
 intro r hr
 obtain ⟨x, hx, rfl⟩ := List.mem_map.1 hr
 unfold chR
 split
 · rfl
 · exact crow_len (hA x hx)
theorem leftC_wid {v : Val} {A : List (List Val)} (hA : ∀ r ∈ A, CRow r) : ∀ r ∈ leftC v A, r.length = 2 := fun r hr => crow_len (hA r (List.mem_filter.1 hr).1)
theorem leftC_le (v : Val) (A : List (List Val)) : (leftC v A).length <= A.length := List.length_filter_le _ _
theorem inv_ch {add : Int} {v : Val} {A B : List (List Val)} (hA : ∀ r ∈ A, CRow r) (hB : ∀ r ∈ B, r.length = 2) (h1 : A.length <= 48) (h2 : B.length <= 48) : Inv (twoS (chA add v A) B) 48 /\ Inv (twoS (leftC v A) B) 48 /\ Inv (twoS (leftC v A ++ [[⟨1, add, noStr⟩, tx sNew]]) B) 49 :=
 ⟨inv_two (chA_wid hA) hB (by rw [chA_len]; exact h1) h2, inv_two (leftC_wid hA) hB (Nat.le_trans (leftC_le v A) h1) h2,
  inv_two (fun r hr => by
   rcases List.mem_append.1 hr with hr | hr
   · exact leftC_wid hA r hr
   · rw [List.mem_singleton.1 hr]; rfl) hB (by rw [List.length_append]; have := leftC_le v A; simp; omega) (by omega)⟩
theorem ins_ch (add : Int) (v : Val) (A B : List (List Val)) : stepS (twoS (leftC v A) B) (insS sT [⟨1, add, noStr⟩, tx sNew]) = twoS (leftC v A ++ [[⟨1, add, noStr⟩, tx sNew]]) B /\ stepA (twoS (leftC v A) B) (insS sT [⟨1, add, noStr⟩, tx sNew]) = ⟨0, [], 1⟩ := by
 have h := ins_t (A := leftC v A) (B := B) (a := ⟨1, add, noStr⟩) (b := tx sNew) (Or.inr rfl) (Or.inr ⟨rfl, by decide⟩)
 exact ⟨h.2, stepA_ins rfl h.1⟩
end
section
open Go Go.RowKit
structure Keep where
 ib : Nat
 ic : Nat
 im : Nat
 ie : Nat
 mm : Nat
 ia : Nat
 ta : Tmp
 tb : Tmp
 tc : Tmp
 tm : Tmp
 te : Tmp
def stV (b1 : Option Addr) (d1 : Nat) (b2 : Option Addr) (d2 : Nat) : Value := .agg #[.slice b1 2 d1, .slice b2 2 d2]
def NewSt (A B : List (List Val)) (s : Value) (w : World) (ok : Nat -> Prop) : Prop := ∃ b1 d1 b2 d2 p, s = stV b1 d1 b2 d2 /\ TwoAt p w b1 d1 b2 d2 A B /\ ∀ k, p k -> k < w.heap.size /\ ok k
theorem NewSt.below {A B : List (List Val)} {s : Value} {w w' : World} {ok : Nat -> Prop} (h : NewSt A B s w ok) (hb : Below w.heap.size w w') : NewSt A B s w' ok := by
 obtain ⟨b1, d1, b2, d2, p, e, h1, h2⟩ := h
 exact ⟨b1, d1, b2, d2, p, e, h1.below hb, fun k hk => ⟨Nat.lt_of_lt_of_le (h2 k hk).1 hb.size, (h2 k hk).2⟩⟩
theorem NewSt.ok {A B : List (List Val)} {s : Value} {w : World} {ok ok' : Nat -> Prop} (h : NewSt A B s w ok) (hk : ∀ k, k < w.heap.size -> ok k -> ok' k) : NewSt A B s w ok' := by
 obtain ⟨b1, d1, b2, d2, p, e, h1, h2⟩ := h
 exact ⟨b1, d1, b2, d2, p, e, h1, fun k hp => ⟨(h2 k hp).1, hk k (h2 k hp).1 (h2 k hp).2⟩⟩
def notBox (K : Keep) (L : Nat -> Bool) (v : Tmp -> Value) (k : Nat) : Prop := (L K.ib = true -> v K.tb ≠ .pointer (some ⟨k, 0, none⟩)) /\ (L K.ia = true -> v K.ta ≠ .pointer (some ⟨k, 0, none⟩))
def KeepJ (K : Keep) (S : Nat) (A B : List (List Val)) : Joint := fun L v w =>
 (L K.ia = true -> ∃ q, v K.ta = .pointer (some ⟨q, 0, none⟩) /\ S <= q /\ q < w.heap.size) /\
 (L K.ib = true -> ∃ q, v K.tb = .pointer (some ⟨q, 0, none⟩) /\ S <= q /\ q < w.heap.size /\ (L K.mm = false -> w.heap[q]? = some (.cells #[.slice none 0 0, .slice none 0 0] 27 (0, 0)))) /\
 (L K.ic = true -> ∃ s x, v K.tc = .tuple #[s, x] /\ NewSt A B s w (notBox K L v)) /\
 (L K.im = true -> L K.ic = true /\ v K.tm = v K.tc) /\
 (L K.ie = true -> L K.im = true /\ ∃ s x, v K.tm = .tuple #[s, x] /\ v K.te = s) /\
 (L K.mm = true -> L K.ib = true /\ L K.ie = true /\ ∃ q s b1 d1 b2 d2 x, v K.tb = .pointer (some ⟨q, 0, none⟩) /\ v K.tc = .tuple #[s, x] /\ s = stV b1 d1 b2 d2 /\ w.heap[q]? = some (.cells #[.slice b1 2 d1, .slice b2 2 d2] 27 (0, 0)))
theorem keep_start (K : Keep) (S : Nat) (A B : List (List Val)) (v : Tmp -> Value) (w : World) : KeepJ K S A B (fun _ => false) v w := by
 unfold KeepJ
 refine ⟨fun h => ?_, fun h => ?_, fun h => ?_, fun h => ?_, fun h => ?_, fun h => ?_⟩ <;> cases h
theorem set1_ne {L : Nat -> Bool} {i j : Nat} (h : j ≠ i) : set1 L i j = L j := if_neg h
theorem set1_self (L : Nat -> Bool) (i : Nat) : set1 L i i = true := if_pos rfl
theorem upd_ne {v : Tmp -> Value} {t : Option Tmp} {u : Value} {s : Tmp} (h : t ≠ some s) : upd v t u s = v s := if_neg h
theorem upd_self (v : Tmp -> Value) (t : Tmp) (u : Value) : upd v (some t) u t = u := if_pos rfl
structure Keep.Apart (K : Keep) : Prop where
 i1 : K.ib ≠ K.ic /\ K.ib ≠ K.im /\ K.ib ≠ K.ie /\ K.ib ≠ K.mm
 i2 : K.ic ≠ K.im /\ K.ic ≠ K.ie /\ K.ic ≠ K.mm
 i3 : K.im ≠ K.ie /\ K.im ≠ K.mm /\ K.ie ≠ K.mm
 t1 : K.tb ≠ K.tc /\ K.tb ≠ K.tm /\ K.tb ≠ K.te
 t2 : K.tc ≠ K.tm /\ K.tc ≠ K.te /\ K.tm ≠ K.te
 i0 : K.ia ≠ K.ib /\ K.ia ≠ K.ic /\ K.ia ≠ K.im /\ K.ia ≠ K.ie /\ K.ia ≠ K.mm
 t0 : K.ta ≠ K.tb /\ K.ta ≠ K.tc /\ K.ta ≠ K.tm /\ K.ta ≠ K.te
variable {l : List Oper} {K : Keep} {S : Nat} {A B : List (List Val)} {v : Tmp -> Value} {u : Value} {w w' : World}
theorem keep_other {i : Nat} {t : Option Tmp} (hb : Below w.heap.size w w')
 (hi : i ≠ K.ib /\ i ≠ K.ic /\ i ≠ K.im /\ i ≠ K.ie /\ i ≠ K.mm /\ i ≠ K.ia) (ht : t ≠ some K.tb /\ t ≠ some K.tc /\ t ≠ some K.tm /\ t ≠ some K.te /\ t ≠ some K.ta) : JStep l (KeepJ K S A B) i v t u w w' := by
 intro L _ _ hJ
 obtain ⟨h0, h1, h2, h3, h4, h5⟩ := hJ
 obtain ⟨i1, i2, i3, i4, i5, i6⟩ := hi
 obtain ⟨t1, t2, t3, t4, t5⟩ := ht
 unfold KeepJ
 rw [set1_ne i1.symm, set1_ne i2.symm, set1_ne i3.symm, set1_ne i4.symm, set1_ne i5.symm, set1_ne i6.symm, upd_ne t1, upd_ne t2, upd_ne t3, upd_ne t4, upd_ne t5]
 refine ⟨fun h => ?_, fun h => ?_, fun h => ?_, h3, h4, fun h => ?_⟩
 · obtain ⟨q, e, hq, hl⟩ := h0 h
   exact ⟨q, e, hq, Nat.lt_of_lt_of_le hl hb.size⟩
 · obtain ⟨q, e, hq, hl, hz⟩ := h1 h
   exact ⟨q, e, hq, Nat.lt_of_lt_of_le hl hb.size, fun hm => (hb.block _ hl).trans (hz hm)⟩
 · obtain ⟨s, x, e, hn⟩ := h2 h
   refine ⟨s, x, e, (hn.below hb).ok fun k _ hk => ⟨fun hL => ?_, fun hL => ?_⟩⟩
   · rw [set1_ne i1.symm] at hL
     rw [upd_ne t1]
     exact hk.1 hL
   · rw [set1_ne i6.symm] at hL
     rw [upd_ne t5]
     exact hk.2 hL
 · obtain ⟨k1, k2, q, s, b1, d1, b2, d2, x, e1, e2, e3, hz⟩ := h5 h
   exact ⟨k1, k2, q, s, b1, d1, b2, d2, x, e1, e2, e3, (hb.block _ (lt_of_block hz)).trans hz⟩
theorem keep_alloc (hK : K.Apart) (hb : Below w.heap.size w w') (hS : S <= w.heap.size) (hu : u = .pointer (some ⟨w.heap.size, 0, none⟩)) (hz : w'.heap[w.heap.size]? = some (.cells #[.slice none 0 0, .slice none 0 0] 27 (0, 0))) : JStep l (KeepJ K S A B) K.ib v (some K.tb) u w w' := by
 intro L hL _ hJ
 obtain ⟨h0, h1, h2, h3, h4, h5⟩ := hJ
 obtain ⟨i2, i3, i4, i5⟩ := hK.i1
 obtain ⟨t2, t3, t4⟩ := hK.t1
 obtain ⟨i6, _⟩ := hK.i0
 obtain ⟨t6, _⟩ := hK.t0
 unfold KeepJ
 rw [set1_self, set1_ne i2.symm, set1_ne i3.symm, set1_ne i4.symm, set1_ne i5.symm, set1_ne i6, upd_self, upd_ne (s := K.tc) (by simpa using t2), upd_ne (s := K.tm) (by simpa using t3), upd_ne (s := K.te) (by simpa using t4), upd_ne (s := K.ta) (by simpa using t6.symm)]
 refine ⟨fun h => ?_, fun _ => ⟨w.heap.size, hu, hS, lt_of_block hz, fun _ => hz⟩, fun h => ?_, h3, h4, fun h => ?_⟩
 · obtain ⟨q, e, hq, hl⟩ := h0 h
   exact ⟨q, e, hq, Nat.lt_of_lt_of_le hl hb.size⟩
 · obtain ⟨s, x, e, hn⟩ := h2 h
   refine ⟨s, x, e, ?_⟩
   obtain ⟨b1, d1, b2, d2, p, e, k1, k2⟩ := hn
   refine ⟨b1, d1, b2, d2, p, e, k1.below hb, fun k hk => ⟨Nat.lt_of_lt_of_le (k2 k hk).1 hb.size, fun _ hq => ?_, fun hLa => ?_⟩⟩
   · rw [upd_self, hu] at hq
     simp only [Value.pointer.injEq, Option.some.injEq, Addr.mk.injEq] at hq
     have := (k2 k hk).1
     omega
   · rw [set1_ne i6] at hLa
     rw [upd_ne (s := K.ta) (by simpa using t6.symm)]
     exact (k2 k hk).2.2 hLa
 · have := (h5 h).1
   rw [hL] at this
   cases this
theorem keep_alloc2 (hK : K.Apart) (hb : Below w.heap.size w w') (hS : S <= w.heap.size) (hu : u = .pointer (some ⟨w.heap.size, 0, none⟩)) (hz : w.heap.size < w'.heap.size) : JStep l (KeepJ K S A B) K.ia v (some K.ta) u w w' := by
 intro L hL _ hJ
 obtain ⟨h0, h1, h2, h3, h4, h5⟩ := hJ
 obtain ⟨i1, i2, i3, i4, i5⟩ := hK.i0
 obtain ⟨t1, t2, t3, t4⟩ := hK.t0
 unfold KeepJ
 rw [set1_self, set1_ne i1.symm, set1_ne i2.symm, set1_ne i3.symm, set1_ne i4.symm, set1_ne i5.symm, upd_self, upd_ne (s := K.tb) (by simpa using t1), upd_ne (s := K.tc) (by simpa using t2), upd_ne (s := K.tm) (by simpa using t3), upd_ne (s := K.te) (by simpa using t4)]
 refine ⟨fun _ => ⟨w.heap.size, hu, hS, hz⟩, fun h => ?_, fun h => ?_, h3, h4, fun h => ?_⟩
 · obtain ⟨q, e, hq, hl, hz⟩ := h1 h
   exact ⟨q, e, hq, Nat.lt_of_lt_of_le hl hb.size, fun hm => (hb.block _ hl).trans (hz hm)⟩
 · obtain ⟨s, x, e, hn⟩ := h2 h
   refine ⟨s, x, e, ?_⟩
   obtain ⟨b1, d1, b2, d2, p, e, k1, k2⟩ := hn
   refine ⟨b1, d1, b2, d2, p, e, k1.below hb, fun k hk => ⟨Nat.lt_of_lt_of_le (k2 k hk).1 hb.size, fun hLb => ?_, fun _ hq => ?_⟩⟩
   · rw [set1_ne i1.symm] at hLb
     rw [upd_ne (s := K.tb) (by simpa using t1)]
     exact (k2 k hk).2.1 hLb
   · rw [upd_self, hu] at hq
     simp only [Value.pointer.injEq, Option.some.injEq, Addr.mk.injEq] at hq
     have := (k2 k hk).1
     omega
 · obtain ⟨k1, k2, q, s, b1, d1, b2, d2, x, e1, e2, e3, hz⟩ := h5 h
   exact ⟨k1, k2, q, s, b1, d1, b2, d2, x, e1, e2, e3, (hb.block _ (lt_of_block hz)).trans hz⟩
theorem keep_call {p0 : Nat -> Prop} {b1 b2 : Option Addr} {d1 d2 : Nat} {x : Value} (hK : K.Apart) (hb : Below w.heap.size w w') (hp : ∀ k, p0 k -> k < S) (hu : u = .tuple #[stV b1 d1 b2 d2, x]) (ht : TwoAt (fun k => p0 k \/ w.heap.size <= k) w' b1 d1 b2 d2 A B) : JStep l (KeepJ K S A B) K.ic v (some K.tc) u w w' := by
 intro L hL _ hJ
 obtain ⟨h0, h1, h2, h3, h4, h5⟩ := hJ
 obtain ⟨i2, i3, i4, i5⟩ := hK.i1
 obtain ⟨j3, j4, j5⟩ := hK.i2
 obtain ⟨t2, t3, t4⟩ := hK.t1
 obtain ⟨s3, s4, _⟩ := hK.t2
 obtain ⟨_, i6, _⟩ := hK.i0
 obtain ⟨_, t6, _⟩ := hK.t0
 have e3 : L K.im = false := by
  cases h : L K.im with
  | false => rfl
  | true => have := (h3 h).1; rw [hL] at this; cases this
 have e4 : L K.ie = false := by
  cases h : L K.ie with
  | false => rfl
  | true => have := (h4 h).1; rw [e3] at this; cases this
 have e5 : L K.mm = false := by
  cases h : L K.mm with
  | false => rfl
  | true => have := (h5 h).2.1; rw [e4] at this; cases this
 unfold KeepJ
 rw [set1_self, set1_ne i2, set1_ne j3.symm, set1_ne j4.symm, set1_ne j5.symm, set1_ne i6, upd_self, upd_ne (s := K.tb) (by simpa using t2.symm), upd_ne (s := K.ta) (by simpa using t6.symm)]
 refine ⟨fun h => ?_, fun h => ?_, fun h => ?_, fun h => ?_, fun h => ?_, fun h => ?_⟩
 · obtain ⟨q, e, hq, hl⟩ := h0 h
   exact ⟨q, e, hq, Nat.lt_of_lt_of_le hl hb.size⟩
 · obtain ⟨q, e, hq, hl, hz⟩ := h1 h
   exact ⟨q, e, hq, Nat.lt_of_lt_of_le hl hb.size, fun hm => (hb.block _ hl).trans (hz hm)⟩
 · refine ⟨_, x, hu, b1, d1, b2, d2, _, rfl, ht.bound, fun k hk => ⟨hk.2, fun hLb hq => ?_, fun hLb hq => ?_⟩⟩
   · rw [set1_ne i2] at hLb
     rw [upd_ne (s := K.tb) (by simpa using t2.symm)] at hq
     obtain ⟨q, e, hSq, hl, _⟩ := h1 hLb
     rw [e] at hq
     simp only [Value.pointer.injEq, Option.some.injEq, Addr.mk.injEq] at hq
     rcases hk.1 with h0 | h0
     · have := hp k h0; omega
     · omega
   · rw [set1_ne i6] at hLb
     rw [upd_ne (s := K.ta) (by simpa using t6.symm)] at hq
     obtain ⟨q, e, hSq, hl⟩ := h0 hLb
     rw [e] at hq
     simp only [Value.pointer.injEq, Option.some.injEq, Addr.mk.injEq] at hq
     rcases hk.1 with h0 | h0
     · have := hp k h0; omega
     · omega
 · rw [e3] at h; cases h
 · rw [e4] at h; cases h
 · rw [e5] at h; cases h
theorem keep_move (hK : K.Apart) (hb : Below w.heap.size w w') (hw : Region.waitsFor .any l.toArray K.im K.ic = true) (hu : u = v K.tc) : JStep l (KeepJ K S A B) K.im v (some K.tm) u w w' := by
 intro L hL hW hJ
 obtain ⟨h0, h1, h2, h3, h4, h5⟩ := hJ
 obtain ⟨i2, i3, i4, i5⟩ := hK.i1
 obtain ⟨j3, j4, j5⟩ := hK.i2
 obtain ⟨m4, m5, _⟩ := hK.i3
 obtain ⟨t2, t3, t4⟩ := hK.t1
 obtain ⟨s3, s4, s5⟩ := hK.t2
 obtain ⟨_, _, i6, _⟩ := hK.i0
 obtain ⟨_, _, t6, _⟩ := hK.t0
 have e4 : L K.ie = false := by
  cases h : L K.ie with
  | false => rfl
  | true => have := (h4 h).1; rw [hL] at this; cases this
 have e5 : L K.mm = false := by
  cases h : L K.mm with
  | false => rfl
  | true => have := (h5 h).2.1; rw [e4] at this; cases this
 unfold KeepJ
 rw [set1_self, set1_ne i3, set1_ne j3, set1_ne m4.symm, set1_ne m5.symm, set1_ne i6, upd_self, upd_ne (s := K.tb) (by simpa using t3.symm), upd_ne (s := K.tc) (by simpa using s3.symm), upd_ne (s := K.ta) (by simpa using t6.symm)]
 refine ⟨fun h => ?_, fun h => ?_, fun h => ?_, fun _ => ⟨hW _ hw, hu⟩, fun h => ?_, fun h => ?_⟩
 · obtain ⟨q, e, hq, hl⟩ := h0 h
   exact ⟨q, e, hq, Nat.lt_of_lt_of_le hl hb.size⟩
 · obtain ⟨q, e, hq, hl, hz⟩ := h1 h
   exact ⟨q, e, hq, Nat.lt_of_lt_of_le hl hb.size, fun hm => (hb.block _ hl).trans (hz hm)⟩
 · obtain ⟨s, x, e, hn⟩ := h2 h
   refine ⟨s, x, e, (hn.below hb).ok fun k _ hk => ⟨fun hLb => ?_, fun hLb => ?_⟩⟩
   · rw [set1_ne i3] at hLb
     rw [upd_ne (s := K.tb) (by simpa using t3.symm)]
     exact hk.1 hLb
   · rw [set1_ne i6] at hLb
     rw [upd_ne (s := K.ta) (by simpa using t6.symm)]
     exact hk.2 hLb
 · rw [e4] at h; cases h
 · rw [e5] at h; cases h
theorem keep_ext (hK : K.Apart) (hb : Below w.heap.size w w') (hw : Region.waitsFor .any l.toArray K.ie K.im = true) (hu : ∃ x, v K.tm = .tuple #[u, x]) : JStep l (KeepJ K S A B) K.ie v (some K.te) u w w' := by
 intro L hL hW hJ
 obtain ⟨h0, h1, h2, h3, h4, h5⟩ := hJ
 obtain ⟨i2, i3, i4, i5⟩ := hK.i1
 obtain ⟨j3, j4, j5⟩ := hK.i2
 obtain ⟨m4, m5, m6⟩ := hK.i3
 obtain ⟨t2, t3, t4⟩ := hK.t1
 obtain ⟨s3, s4, s5⟩ := hK.t2
 obtain ⟨_, _, _, i6, _⟩ := hK.i0
 obtain ⟨_, _, _, t6⟩ := hK.t0
 have e5 : L K.mm = false := by
  cases h : L K.mm with
  | false => rfl
  | true => have := (h5 h).2.1; rw [hL] at this; cases this
 unfold KeepJ
 rw [set1_self, set1_ne i4, set1_ne j4, set1_ne m4, set1_ne m6.symm, set1_ne i6, upd_self, upd_ne (s := K.tb) (by simpa using t4.symm), upd_ne (s := K.tc) (by simpa using s4.symm), upd_ne (s := K.tm) (by simpa using s5.symm), upd_ne (s := K.ta) (by simpa using t6.symm)]
 refine ⟨fun h => ?_, fun h => ?_, fun h => ?_, h3, fun _ => ⟨hW _ hw, ?_⟩, fun h => ?_⟩
 · obtain ⟨q, e, hq, hl⟩ := h0 h
   exact ⟨q, e, hq, Nat.lt_of_lt_of_le hl hb.size⟩
 · obtain ⟨q, e, hq, hl, hz⟩ := h1 h
   exact ⟨q, e, hq, Nat.lt_of_lt_of_le hl hb.size, fun hm => (hb.block _ hl).trans (hz hm)⟩
 · obtain ⟨s, x, e, hn⟩ := h2 h
   refine ⟨s, x, e, (hn.below hb).ok fun k _ hk => ⟨fun hLb => ?_, fun hLb => ?_⟩⟩
   · rw [set1_ne i4] at hLb
     rw [upd_ne (s := K.tb) (by simpa using t4.symm)]
     exact hk.1 hLb
   · rw [set1_ne i6] at hLb
     rw [upd_ne (s := K.ta) (by simpa using t6.symm)]
     exact hk.2 hLb
 · obtain ⟨x, hx⟩ := hu
   exact ⟨u, x, hx, rfl⟩
 · rw [e5] at h; cases h
theorem keep_store {q : Nat} {b1 b2 : Option Addr} {d1 d2 : Nat} (hK : K.Apart) (hg : w.grownBy w' (some q)) (hs : w.heap.size <= w'.heap.size) (hq : v K.tb = .pointer (some ⟨q, 0, none⟩)) (he : v K.te = stV b1 d1 b2 d2) (hz : w'.heap[q]? = some (.cells #[.slice b1 2 d1, .slice b2 2 d2] 27 (0, 0)))
 (hw1 : Region.waitsFor .any l.toArray K.mm K.ib = true) (hw2 : Region.waitsFor .any l.toArray K.mm K.ie = true) : JStep l (KeepJ K S A B) K.mm v none u w w' := by
 intro L hL hW hJ
 obtain ⟨h0, h1, h2, h3, h4, h5⟩ := hJ
 obtain ⟨i2, i3, i4, i5⟩ := hK.i1
 obtain ⟨j3, j4, j5⟩ := hK.i2
 obtain ⟨m4, m5, m6⟩ := hK.i3
 obtain ⟨_, _, _, _, i6⟩ := hK.i0
 have lb := hW _ hw1
 have le := hW _ hw2
 obtain ⟨lm, s, x, em, es⟩ := h4 le
 obtain ⟨lc, ec⟩ := h3 lm
 have hv : upd v none u = v := by funext t; exact if_neg (by simp)
 unfold KeepJ
 rw [hv, set1_self, set1_ne i5, set1_ne j5, set1_ne m5, set1_ne m6, set1_ne i6]
 refine ⟨fun h => ?_, fun h => ?_, fun h => ?_, h3, h4, fun _ => ⟨lb, le, q, s, b1, d1, b2, d2, x, hq, ?_, ?_, hz⟩⟩
 · obtain ⟨r, e, hr, hl⟩ := h0 h
   exact ⟨r, e, hr, Nat.lt_of_lt_of_le hl hs⟩
 · obtain ⟨r, e, hr, hl, _⟩ := h1 h
   exact ⟨r, e, hr, Nat.lt_of_lt_of_le hl hs, fun hm => by cases hm⟩
 · obtain ⟨s', x', e, b1', d1', b2', d2', p, e', k1, k2⟩ := h2 h
   have hkq : ∀ k, p k -> k ≠ q := fun k hp hkq => (k2 k hp).2.1 lb (hkq ▸ hq)
   refine ⟨s', x', e, b1', d1', b2', d2', p, e', k1.keep fun k hp hl => hg.block k hl (fun e => hkq k hp (Option.some.inj e)), fun k hp => ⟨Nat.lt_of_lt_of_le (k2 k hp).1 hs, fun _ => (k2 k hp).2.1 lb, fun h => by rw [set1_ne i6] at h; exact (k2 k hp).2.2 h⟩⟩
 · rw [<- ec, em]
 · rw [<- es, he]
theorem keep_end {L : Nat -> Bool} (h : KeepJ K S A B L v w) (lb : L K.ib = true) (lm : L K.mm = true) (lc : L K.ic = true) (la : L K.ia = true) : ∃ q b1 d1 b2 d2 p, v K.tb = .pointer (some ⟨q, 0, none⟩) /\ S <= q /\ w.heap[q]? = some (.cells #[.slice b1 2 d1, .slice b2 2 d2] 27 (0, 0)) /\ TwoAt p w b1 d1 b2 d2 A B /\ ∀ k, p k -> k < w.heap.size /\ k ≠ q /\ v K.ta ≠ .pointer (some ⟨k, 0, none⟩) := by
 obtain ⟨_, h1, h2, h3, h4, h5⟩ := h
 obtain ⟨_, _, q, s, b1, d1, b2, d2, x, e1, e2, e3, hz⟩ := h5 lm
 obtain ⟨r, er, hr, _⟩ := h1 lb
 obtain ⟨s', x', e, b1', d1', b2', d2', p, e', k1, k2⟩ := h2 lc
 rw [e1] at er
 simp only [Value.pointer.injEq, Option.some.injEq, Addr.mk.injEq] at er
 rw [e2] at e
 simp only [Value.tuple.injEq, Array.mk.injEq, List.cons.injEq, and_true] at e
 have e4 : stV b1 d1 b2 d2 = stV b1' d1' b2' d2' := (e3.symm.trans e.1).trans e'
 unfold stV at e4
 simp only [Value.agg.injEq, Array.mk.injEq, List.cons.injEq, Value.slice.injEq, true_and, and_true] at e4
 obtain ⟨⟨rfl, rfl⟩, rfl, rfl⟩ := e4
 obtain ⟨rfl, _⟩ := er
 exact ⟨q, b1, d1, b2, d2, p, e1, hr, hz, k1, fun k hp => ⟨(k2 k hp).1, fun hkq => (k2 k hp).2.1 lb (hkq ▸ e1), (k2 k hp).2.2 la⟩⟩
end
end Go.Proofs.YtgemihkcihigpaaGreatDoor
