/- Layer 18 (plain): what statements do: plain data, no program in sight. -/
import Derived.Test.YtpfjakcfjpgbmaaGreatDoorCmpPlain
namespace Go.Proofs.YtpfjakcfjpgbmaaGreatDoor
set_option linter.unusedVariables false
set_option linter.unusedSimpArgs false
open Go

structure Cond where
  col : ByteArray
  op : Int
  val : Val
  deriving DecidableEq
structure Ix where
  name : ByteArray
  cols : List Int
  root : Int
structure Tab where
  id : Int
  name : ByteArray
  cols : List (ByteArray × Int)
  idx : List Ix
structure SetV where
  col : ByteArray
  col2 : ByteArray
  val : Val
  deriving DecidableEq
structure Stmt where
  kind : Int
  table : ByteArray
  name : ByteArray
  cols : List (ByteArray × Int)
  names : List ByteArray
  row : List Val
  sets : List SetV
  wher : List Cond
  join : ByteArray
  left : ByteArray
  right : ByteArray
  agg : Int
  order : List ByteArray
  mode : Int
  n : Int
  deriving DecidableEq
def noStr : ByteArray := ⟨#[]⟩
theorem toList_data (s : ByteArray) : s.toList = s.data.toList := ByteArray.toList_eq s
def val0 : Val := ⟨0, 0, noStr⟩
instance : Inhabited Val := ⟨val0⟩
instance : Inhabited Cond := ⟨⟨noStr, 0, val0⟩⟩
instance : Inhabited Ix := ⟨⟨noStr, [], 0⟩⟩
instance : Inhabited Tab := ⟨⟨0, noStr, [], []⟩⟩
def stmt0 : Stmt := ⟨0, noStr, noStr, [], [], [], [], [], noStr, noStr, noStr, 0, [], 0, 0⟩

/-- the first place at which p holds, or -1 -/
def idxOf {α : Type} (p : α → Bool) (L : List α) : Int := match L.findIdx? p with | some i => (i : Int) | none => -1
theorem idxOf_hit {α : Type} {p : α → Bool} {L : List α} {k : Nat} (hk : k < L.length) (h : p L[k] = true) (hb : ∀ t (ht : t < k), p (L[t]'(by omega)) = false) : idxOf p L = k := by
  have : L.findIdx? p = some k := by
    rw [List.findIdx?_eq_some_iff_getElem]
    exact ⟨hk, h, fun j hj => by rw [hb j hj]; simp⟩
  simp [idxOf, this]
theorem idxOf_miss {α : Type} {p : α → Bool} {L : List α} (hb : ∀ t (ht : t < L.length), p L[t] = false) : idxOf p L = -1 := by
  have : L.findIdx? p = none := by
    rw [List.findIdx?_eq_none_iff]
    intro x hx
    obtain ⟨i, hi, rfl⟩ := List.getElem_of_mem hx
    exact hb i hi
  simp [idxOf, this]
theorem idxOf_bd {α : Type} (p : α → Bool) (L : List α) : -1 ≤ idxOf p L ∧ idxOf p L < L.length := by
  unfold idxOf
  cases h : L.findIdx? p with
  | none => simp; omega
  | some i =>
    rw [List.findIdx?_eq_some_iff_getElem] at h
    obtain ⟨hi, _⟩ := h
    simp; omega
theorem idxOf_spec {α : Type} (p : α → Bool) (L : List α) (h : 0 ≤ idxOf p L) : ∃ (i : Nat) (hi : i < L.length), idxOf p L = i ∧ p L[i] = true ∧ ∀ t (ht : t < i), p (L[t]'(by omega)) = false := by
  unfold idxOf at *
  cases h2 : L.findIdx? p with
  | none => rw [h2] at h; simp at h
  | some i =>
    rw [List.findIdx?_eq_some_iff_getElem] at h2
    obtain ⟨hi, h3, h4⟩ := h2
    exact ⟨i, hi, rfl, h3, fun t ht => by simpa using h4 t ht⟩
theorem idxOf_neg {α : Type} (p : α → Bool) (L : List α) (h : idxOf p L < 0) : ∀ x ∈ L, p x = false := by
  unfold idxOf at h
  cases h2 : L.findIdx? p with
  | none => rw [List.findIdx?_eq_none_iff] at h2; exact fun x hx => h2 x hx
  | some i => rw [h2] at h; simp at h; omega

def sEq (a b : ByteArray) : Bool := a.toList == b.toList
theorem sEq_iff (a b : ByteArray) : sEq a b = true ↔ a = b := by
  unfold sEq
  rw [beq_iff_eq, toList_data, toList_data]
  constructor
  · intro h
    obtain ⟨⟨a⟩⟩ := a
    obtain ⟨⟨b⟩⟩ := b
    simp at h
    rw [h]
  · rintro rfl; rfl
def colOf (T : Tab) (name : ByteArray) : Int := idxOf (fun c => sEq c.1 name) T.cols

/-- rows, one before the other -/
def cmpR : List Val → List Val → Int
  | [], [] => 0
  | [], _ :: _ => -1
  | _ :: _, [] => 1
  | a :: x, b :: y => if cmpV a b = 0 then cmpR x y else cmpV a b
/-- a state: tables and their rows -/
structure StV where
  tabs : List Tab
  rows : List (List (List Val))
structure AnsV where
  err : Int
  rows : List (List Val)
  n : Int
def ans0 : AnsV := ⟨0, [], 0⟩
def ansE (e : Int) : AnsV := ⟨e, [], 0⟩
def findV (s : StV) (name : ByteArray) : Int := idxOf (fun t => sEq t.name name) s.tabs
def fitsC (T : Tab) (r : List Val) (c : Cond) : Bool := decide (0 ≤ colOf T c.col) && decide (colOf T c.col < r.length) && fitsV (r.getD (colOf T c.col).toNat default) c.op c.val
def fitsW (T : Tab) (W : List Cond) (r : List Val) : Bool := W.all (fitsC T r)
def checkV (T : Tab) (r : List Val) : Int :=
  if r.length ≠ T.cols.length then 2 else if (List.zip r T.cols).all fun x => rightB x.1 && (decide (x.1.kind = 0) || decide (x.1.kind = x.2.2)) then 0 else 52
end Go.Proofs.YtpfjakcfjpgbmaaGreatDoor
