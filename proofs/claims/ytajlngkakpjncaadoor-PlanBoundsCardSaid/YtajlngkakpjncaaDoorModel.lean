/- What package plan computes: plain data, no program in sight. -/
import Derived.Test.YtajlngkakpjncaaDoorKeyPlain
namespace Go.Proofs.YtajlngkakpjncaaDoor
set_option linter.unusedVariables false
set_option linter.unusedSimpArgs false
open Go

structure Cond where
  col : ByteArray
  op : Int
  val : Val
structure Ix where
  name : ByteArray
  cols : List Int
  root : Int
structure Tab where
  id : Int
  name : ByteArray
  cols : List (ByteArray × Int)
  idx : List Ix
structure Sta where
  rows : Int
  vals : List Int
structure Way where
  index : Int
  lo : ByteArray
  hi : ByteArray
  cost : Int
structure PlanV where
  way : Way
  join : Way
  merge : Bool
  cost : Int

def noStr : ByteArray := ⟨#[]⟩
def mkStr (l : List UInt8) : ByteArray := ⟨l.toArray⟩
theorem mkStr_data (l : List UInt8) : (mkStr l).data.toList = l := rfl
theorem toList_data (s : ByteArray) : s.toList = s.data.toList := ByteArray.toList_eq s
instance : Inhabited Cond := ⟨⟨noStr, 0, default⟩⟩
instance : Inhabited Ix := ⟨⟨noStr, [], 0⟩⟩
def way0 : Way := ⟨0, noStr, noStr, 0⟩
instance : Inhabited Way := ⟨way0⟩
def plan0 : PlanV := ⟨way0, way0, false, 0⟩

/-- the first place at which p holds, or -1 -/
def idxOf {α : Type} (p : α → Bool) (L : List α) : Int := match L.findIdx? p with | some i => (i : Int) | none => -1
theorem idxOf_hit {α : Type} {p : α → Bool} {L : List α} {k : Nat} (hk : k < L.length) (h : p L[k] = true) (hb : ∀ t (ht : t < k), p (L[t]'(by omega)) = false) : idxOf p L = k := by
  have : L.findIdx? p = some k := by
    rw [List.findIdx?_eq_some_iff_getElem]
    exact ⟨hk, h, fun j hj => by rw [hb j hj]; simp⟩
  simp [idxOf, this]
theorem idxOf_miss {α : Type} {p : α → Bool} {L : List α} (hb : ∀ t (ht : t < L.length), p L[t] = false) : idxOf p L = -1 := by
  have : L.findIdx? p = none := by
    rw [List.findIdx?_eq_none_iff]
    intro x hx
    obtain ⟨i, hi, rfl⟩ := List.getElem_of_mem hx
    exact hb i hi
  simp [idxOf, this]
theorem idxOf_bd {α : Type} (p : α → Bool) (L : List α) : -1 ≤ idxOf p L ∧ idxOf p L < L.length := by
  unfold idxOf
  cases h : L.findIdx? p with
  | none => simp; omega
  | some i =>
    rw [List.findIdx?_eq_some_iff_getElem] at h
    obtain ⟨hi, _⟩ := h
    simp; omega
theorem idxOf_spec {α : Type} (p : α → Bool) (L : List α) (h : 0 ≤ idxOf p L) : ∃ (i : Nat) (hi : i < L.length), idxOf p L = i ∧ p L[i] = true ∧ ∀ t (ht : t < i), p (L[t]'(by omega)) = false := by
  unfold idxOf at *
  cases h2 : L.findIdx? p with
  | none => rw [h2] at h; simp at h
  | some i =>
    rw [List.findIdx?_eq_some_iff_getElem] at h2
    obtain ⟨hi, h3, h4⟩ := h2
    exact ⟨i, hi, rfl, h3, fun t ht => by simpa using h4 t ht⟩
theorem idxOf_neg {α : Type} (p : α → Bool) (L : List α) (h : idxOf p L < 0) : ∀ x ∈ L, p x = false := by
  unfold idxOf at h
  cases h2 : L.findIdx? p with
  | none => rw [List.findIdx?_eq_none_iff] at h2; exact fun x hx => h2 x hx
  | some i => rw [h2] at h; simp at h; omega

def sEq (a b : ByteArray) : Bool := a.toList == b.toList
theorem sEq_iff (a b : ByteArray) : sEq a b = true ↔ a = b := by
  unfold sEq
  rw [beq_iff_eq, toList_data, toList_data]
  constructor
  · intro h
    obtain ⟨⟨a⟩⟩ := a
    obtain ⟨⟨b⟩⟩ := b
    simp at h
    rw [h]
  · rintro rfl; rfl
def colOf (T : Tab) (name : ByteArray) : Int := idxOf (fun c => sEq c.1 name) T.cols
def clampI (lo n hi : Int) : Int := max lo (min n hi)
def rowsOf (S : Sta) : Int := clampI 0 S.rows 1000000
theorem rowsOf_bd (S : Sta) : 0 ≤ rowsOf S ∧ rowsOf S ≤ 1000000 := by unfold rowsOf clampI; omega
def valsOf (S : Sta) (c : Int) : Int := if c < S.vals.length then clampI 1 (S.vals.getD c.toNat 0) 1000000 else 1
theorem valsOf_bd (S : Sta) (c : Int) : 1 ≤ valsOf S c ∧ valsOf S c ≤ 1000000 := by
  unfold valsOf clampI
  split <;> omega
def leftOf (n : Int) (S : Sta) (c : Int) : Int := (n + valsOf S c - 1) / valsOf S c
theorem leftOf_bd (n : Int) (S : Sta) (c : Int) (h0 : 0 ≤ n) (h1 : n ≤ 1000000) : 0 ≤ leftOf n S c ∧ leftOf n S c ≤ 1000000 := by
  unfold leftOf
  have hv := valsOf_bd S c
  generalize valsOf S c = v at *
  refine ⟨Int.ediv_nonneg (by omega) (by omega), ?_⟩
  rcases (show n = 0 ∨ 1 ≤ n by omega) with rfl | hn
  · have : (0 + v - 1) / v = 0 := Int.ediv_eq_zero_of_lt (by omega) (by omega)
    omega
  · have : (n + v - 1) / v ≤ n := by
      refine Int.ediv_le_of_le_mul (by omega) ?_
      have : n + v - 1 ≤ n * v := by
        have h2 : 0 ≤ (n - 1) * (v - 1) := Int.mul_nonneg (by omega) (by omega)
        have h3 : (n - 1) * (v - 1) = n * v - n - v + 1 := by rw [Int.sub_mul, Int.mul_sub, Int.mul_sub]; omega
        omega
      exact this
    omega
/-- a condition on a column, with one of the operators -/
def condOn (name : ByteArray) (ops : List Int) (c : Cond) : Bool := sEq c.col name && ops.contains c.op && rightB c.val && decide (c.val.kind ≠ 0)
def condF (W : List Cond) (name : ByteArray) (ops : List Int) : Option Val := (W.find? (condOn name ops)).map (·.val)
theorem condF_hit {W : List Cond} {name : ByteArray} {ops : List Int} {k : Nat} (hk : k < W.length) (h : condOn name ops W[k] = true) (hb : ∀ t (ht : t < k), condOn name ops (W[t]'(by omega)) = false) : condF W name ops = some W[k].val := by
  have : W.find? (condOn name ops) = some W[k] := by
    rw [List.find?_eq_some_iff_getElem]
    exact ⟨h, k, hk, rfl, fun j hj => by rw [hb j hj]; simp⟩
  simp [condF, this]
theorem condF_miss {W : List Cond} {name : ByteArray} {ops : List Int} (hb : ∀ t (ht : t < W.length), condOn name ops W[t] = false) : condF W name ops = none := by
  have : W.find? (condOn name ops) = none := by
    rw [List.find?_eq_none]
    intro x hx
    obtain ⟨i, hi, rfl⟩ := List.getElem_of_mem hx
    rw [hb i hi]; simp
  simp [condF, this]
theorem condF_some {W : List Cond} {name : ByteArray} {ops : List Int} {v : Val} (h : condF W name ops = some v) : ∃ c ∈ W, c.val = v ∧ c.col = name ∧ c.op ∈ ops ∧ rightB v = true ∧ v.kind ≠ 0 := by
  unfold condF at h
  cases h2 : W.find? (condOn name ops) with
  | none => rw [h2] at h; cases h
  | some c =>
    rw [h2] at h
    simp only [Option.map_some, Option.some.injEq] at h
    subst h
    have h3 := List.find?_some h2
    simp only [condOn, Bool.and_eq_true, decide_eq_true_eq, List.contains_iff_mem] at h3
    exact ⟨c, List.mem_of_find?_eq_some h2, rfl, (sEq_iff _ _).1 h3.1.1.1, h3.1.1.2, h3.1.2, h3.2⟩
structure Idx where
  pre : List UInt8
  lo : List UInt8
  hi : List UInt8
  rest : Int
/-- the bounds of the first column without an Eq condition -/
def idxEnd (W : List Cond) (name : ByteArray) (p : List UInt8) (r : Int) : Idx :=
  ⟨p, ((condF W name [5, 6]).map keyV).getD [], ((condF W name [3, 4]).map keyV).getD [],
    if (condF W name [3, 4]).isSome then ((if (condF W name [5, 6]).isSome then (r + 2) / 3 else r) + 2) / 3 else if (condF W name [5, 6]).isSome then (r + 2) / 3 else r⟩
def nameAt (T : Tab) (c : Int) : ByteArray := (T.cols.getD c.toNat default).1
/-- the columns of an index, one after the other -/
def idxGo (T : Tab) (S : Sta) (W : List Cond) : List Int → List UInt8 → Int → Idx
  | [], p, r => ⟨p, [], [], r⟩
  | c :: cs, p, r =>
    if c < 0 ∨ (T.cols.length : Int) ≤ c then ⟨p, [], [], r⟩ else
    match condF W (nameAt T c) [1] with
    | some v => idxGo T S W cs (p ++ keyV v) (leftOf r S c)
    | none => idxEnd W (nameAt T c) p r
def cut16 (l : List UInt8) : List UInt8 := l.take 16
def byIdx (T : Tab) (S : Sta) (W : List Cond) (n : Nat) : Way :=
  let g := idxGo T S W (T.idx.getD n default).cols [] (rowsOf S)
  ⟨n, mkStr (cut16 (g.pre ++ g.lo)), mkStr (cut16 (g.pre ++ g.hi)), 3 + 2 * g.rest⟩
def scanOf (S : Sta) : Way := ⟨-1, noStr, noStr, 1 + rowsOf S⟩
def waysOf (T : Tab) (S : Sta) (W : List Cond) : List Way := scanOf S :: (List.range T.idx.length).map (byIdx T S W)
theorem idxGo_bd (T : Tab) (S : Sta) (W : List Cond) : ∀ (cs : List Int) (p : List UInt8) (r : Int), 0 ≤ r → r ≤ 1000000 → 0 ≤ (idxGo T S W cs p r).rest ∧ (idxGo T S W cs p r).rest ≤ 1000000
  | [], p, r, h0, h1 => ⟨h0, h1⟩
  | c :: cs, p, r, h0, h1 => by
    rw [idxGo]
    split
    · exact ⟨h0, h1⟩
    · split
      · have := leftOf_bd r S c h0 h1
        exact idxGo_bd T S W cs _ _ this.1 this.2
      · unfold idxEnd
        simp only
        split <;> split <;> omega
theorem waysOf_cost (T : Tab) (S : Sta) (W : List Cond) : ∀ x ∈ waysOf T S W, 0 ≤ x.cost ∧ x.cost ≤ 2000003 := by
  intro x hx
  have h0 := rowsOf_bd S
  rcases List.mem_cons.1 hx with rfl | hx
  · simp [scanOf]; omega
  · obtain ⟨n, _, rfl⟩ := List.mem_map.1 hx
    have := idxGo_bd T S W (T.idx.getD n default).cols [] (rowsOf S) h0.1 h0.2
    simp only [byIdx]; omega
/-- the first of least cost -/
def bestGo : Way → List Way → Way
  | m, [] => m
  | m, x :: L => bestGo (if x.cost < m.cost then x else m) L
def bestOf : List Way → Way
  | [] => way0
  | x :: L => bestGo x L
def covKey (r : List Val) : List Int → List UInt8
  | [] => []
  | c :: cs => if c < 0 ∨ (r.length : Int) ≤ c then [] else keyV (r.getD c.toNat default) ++ covKey r cs
def within (k lo hi : List UInt8) : Bool := !Op.bytesLess k lo && (Op.bytesLess (k.take (min k.length hi.length)) hi || k.take (min k.length hi.length) == hi)
def coversOf (T : Tab) (w : Way) (r : List Val) : Bool :=
  if w.index < 0 ∨ (T.idx.length : Int) ≤ w.index then true else
  within (cut16 (covKey r (T.idx.getD w.index.toNat default).cols)) w.lo.data.toList w.hi.data.toList
def ledOf (T : Tab) (c : Int) : Int := idxOf (fun x => decide (0 < x.cols.length) && (x.cols.getD 0 0 == c)) T.idx

structure SetV where
  col : ByteArray
  col2 : ByteArray
  val : Val
structure Stmt where
  kind : Int
  table : ByteArray
  name : ByteArray
  cols : List (ByteArray × Int)
  names : List ByteArray
  row : List Val
  sets : List SetV
  wher : List Cond
  join : ByteArray
  left : ByteArray
  right : ByteArray
  agg : Int
  order : List ByteArray
  mode : Int
  n : Int
def stmt0 : Stmt := ⟨0, noStr, noStr, [], [], [], [], [], noStr, noStr, noStr, 0, [], 0, 0⟩
def setNames (l : List SetV) : List ByteArray := l.flatMap fun x => if x.col2.toList.isEmpty then [x.col] else [x.col, x.col2]
def namesOf (s : Stmt) : List ByteArray :=
  (if s.kind = 5 then setNames s.sets else if s.kind = 7 then s.names ++ s.order else []) ++ s.wher.map (·.col)
def twoOf (s : Stmt) : Bool := decide (s.kind = 7) && !s.join.toList.isEmpty
def strangeB (T U : Tab) (two : Bool) (name : ByteArray) : Bool := decide (colOf T name < 0) && (!two || decide (colOf U name < 0))
def mineOf (T : Tab) (own : Bool) (W : List Cond) : List Cond := W.filter fun c => decide (0 ≤ colOf T c.col) == own
def probeOf (U : Tab) (b : Sta) (r : Int) : Way :=
  if 0 ≤ ledOf U r then ⟨ledOf U r, noStr, noStr, 3 + 2 * leftOf (rowsOf b) b r⟩ else scanOf b
def planOf (T U : Tab) (a b : Sta) (s : Stmt) : PlanV × Int :=
  if s.kind ≠ 5 ∧ s.kind ≠ 6 ∧ s.kind ≠ 7 then (plan0, 1) else
  let two := twoOf s
  let l := colOf T s.left
  let r := colOf U s.right
  if (namesOf s).any (strangeB T U two) || two && (decide (l < 0) || decide (r < 0)) then (plan0, 50) else
  let ways := waysOf T a (mineOf T true s.wher)
  let w := bestOf ways
  if !two then (⟨w, way0, false, w.cost⟩, 0) else
  let others := waysOf U b (mineOf T false s.wher)
  let i := ledOf T l
  let k := ledOf U r
  let probe := probeOf U b r
  let nested : PlanV := ⟨w, probe, false, w.cost + rowsOf a * probe.cost⟩
  if decide (0 ≤ i) && decide (0 ≤ k) && decide ((T.cols.getD l.toNat default).2 = 1) && decide ((U.cols.getD r.toNat default).2 = 1) then
    let x := ways.getD (i + 1).toNat default
    let y := others.getD (k + 1).toNat default
    if x.cost + y.cost < nested.cost then (⟨x, y, true, x.cost + y.cost⟩, 0) else (nested, 0)
  else (nested, 0)
end Go.Proofs.YtajlngkakpjncaaDoor
