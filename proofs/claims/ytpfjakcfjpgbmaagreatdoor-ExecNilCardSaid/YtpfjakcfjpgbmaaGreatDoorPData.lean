/- Tables, conditions, values and sets in memory. -/
import Derived.Test.YtpfjakcfjpgbmaaGreatDoorPModel
import Derived.Test.YtpfjakcfjpgbmaaGreatDoorPBase
import Derived.Test.YtpfjakcfjpgbmaaGreatDoorRep
namespace Go.Proofs.YtpfjakcfjpgbmaaGreatDoor
set_option linter.unusedVariables false
set_option linter.unusedSimpArgs false
open Go.RowKit

theorem RowAt.flat {α : Type} {p : Nat → Prop} {w : World} {b off : Nat} {L : List α} {sz : Nat} {enc : α → List Value} {hl : ∀ x, (enc x).length = sz}
    (h : RowAt (flatR sz enc hl) p w (some ⟨b, off, none⟩) L) (t : Nat) (ht : t < L.length) (j : Nat) (hj : j < sz) : w.cell? ⟨b, off + t * sz + j, none⟩ = (enc L[t])[j]? := by
  obtain ⟨cs, h1, rfl⟩ := h.get t ht
  exact h1 j hj

def colEnc (c : ByteArray × Int) : List Value := [.string c.1, .int .i64 c.2]
def colR : Rep (ByteArray × Int) := flatR 2 colEnc fun _ => rfl
def valEnc (v : Val) : List Value := [.int .i64 v.kind, .int .i64 v.n, .string v.s]
def valR : Rep Val := flatR 3 valEnc fun _ => rfl
def condEnc (c : Cond) : List Value := [.string c.col, .int .i64 c.op, .int .i64 c.val.kind, .int .i64 c.val.n, .string c.val.s]
def condR : Rep Cond := flatR 5 condEnc fun _ => rfl
def setEnc (x : SetV) : List Value := [.string x.col, .string x.col2, .int .i64 x.val.kind, .int .i64 x.val.n, .string x.val.s]
def setR : Rep SetV := flatR 5 setEnc fun _ => rfl
def Cond.enc (c : Cond) : Value := .agg #[.string c.col, .int .i64 c.op, .int .i64 c.val.kind, .int .i64 c.val.n, .string c.val.s]
def ixR : Rep Ix where
  sz := 3
  ok := fun p w cs x => ∃ a cap, cs = [.string x.name, .slice a x.cols.length cap, .int .i64 x.root] ∧ x.cols.length ≤ cap ∧ x.cols.length ≤ 140737488355328 ∧ RowAt intR p w a x.cols
  len := by rintro p w cs x ⟨a, cap, rfl, _⟩; rfl
  keep := by rintro p w w' cs x ⟨a, cap, h0, h1, h2, h3⟩ hk; exact ⟨a, cap, h0, h1, h2, h3.keep hk⟩
  weaken := by rintro p q w cs x ⟨a, cap, h0, h1, h2, h3⟩ hk; exact ⟨a, cap, h0, h1, h2, h3.weaken hk⟩
  bound := by rintro p w cs x ⟨a, cap, h0, h1, h2, h3⟩; exact ⟨a, cap, h0, h1, h2, h3.bound⟩
/-- a table's value -/
def TabV (p : Nat → Prop) (w : World) (v : Value) (T : Tab) : Prop :=
  ∃ ac cc ai ci, v = .agg #[.int .i64 T.id, .string T.name, .slice ac T.cols.length cc, .slice ai T.idx.length ci] ∧ SlV colR p w (.slice ac T.cols.length cc) T.cols ∧ SlV ixR p w (.slice ai T.idx.length ci) T.idx
theorem TabV.keep {p : Nat → Prop} {w w' : World} {v : Value} {T : Tab} (h : TabV p w v T) (hk : ∀ k, p k → k < w.heap.size → w'.heap[k]? = w.heap[k]?) : TabV p w' v T := by
  obtain ⟨ac, cc, ai, ci, h0, h1, h2⟩ := h
  exact ⟨ac, cc, ai, ci, h0, h1.keep hk, h2.keep hk⟩
theorem TabV.below {p : Nat → Prop} {w w' : World} {v : Value} {T : Tab} (h : TabV p w v T) (hb : Below w.heap.size w w') : TabV p w' v T := h.keep fun k _ hk => hb.block k hk
theorem TabV.bound {p : Nat → Prop} {w : World} {v : Value} {T : Tab} (h : TabV p w v T) : TabV (fun k => p k ∧ k < w.heap.size) w v T := by
  obtain ⟨ac, cc, ai, ci, h0, h1, h2⟩ := h
  exact ⟨ac, cc, ai, ci, h0, h1.bound, h2.bound⟩
theorem TabV.weaken {p q : Nat → Prop} {w : World} {v : Value} {T : Tab} (h : TabV p w v T) (hk : ∀ k, p k → q k) : TabV q w v T := by
  obtain ⟨ac, cc, ai, ci, h0, h1, h2⟩ := h
  exact ⟨ac, cc, ai, ci, h0, h1.weaken hk, h2.weaken hk⟩
theorem SlV.row {α : Type} {R : Rep α} {p : Nat → Prop} {w : World} {a : Option Addr} {n cap : Nat} {L : List α} (h : SlV R p w (.slice a n cap) L) : n = L.length ∧ n ≤ cap ∧ n ≤ 140737488355328 ∧ RowAt R p w a L := by
  obtain ⟨a', cap', h0, h1, h2, h3⟩ := h
  simp only [Value.slice.injEq] at h0
  obtain ⟨rfl, rfl, rfl⟩ := h0
  exact ⟨rfl, h1, h2, h3⟩
theorem SlV.shape {α : Type} {R : Rep α} {p : Nat → Prop} {w : World} {v : Value} {L : List α} (h : SlV R p w v L) : ∃ a cap, v = .slice a L.length cap := by
  obtain ⟨a, cap, h0, _⟩ := h
  exact ⟨a, cap, h0⟩

theorem RowAt.col {p : Nat → Prop} {w : World} {b off : Nat} {L : List (ByteArray × Int)} (h : RowAt colR p w (some ⟨b, off, none⟩) L) (t : Nat) (ht : t < L.length) :
    w.cell? ⟨b, off + t * 2, none⟩ = some (.string L[t].1) ∧ w.cell? ⟨b, off + t * 2 + 1, none⟩ = some (.int .i64 L[t].2) :=
  ⟨h.flat t ht 0 (by omega), h.flat t ht 1 (by omega)⟩
theorem RowAt.val {p : Nat → Prop} {w : World} {b off : Nat} {L : List Val} (h : RowAt valR p w (some ⟨b, off, none⟩) L) (t : Nat) (ht : t < L.length) :
    w.cell? ⟨b, off + t * 3, none⟩ = some (.int .i64 L[t].kind) ∧ w.cell? ⟨b, off + t * 3 + 1, none⟩ = some (.int .i64 L[t].n) ∧ w.cell? ⟨b, off + t * 3 + 2, none⟩ = some (.string L[t].s) :=
  ⟨h.flat t ht 0 (by omega), h.flat t ht 1 (by omega), h.flat t ht 2 (by omega)⟩
theorem RowAt.cond {p : Nat → Prop} {w : World} {b off : Nat} {L : List Cond} (h : RowAt condR p w (some ⟨b, off, none⟩) L) (t : Nat) (ht : t < L.length) :
    w.cell? ⟨b, off + t * 5, none⟩ = some (.string L[t].col) ∧ w.cell? ⟨b, off + t * 5 + 1, none⟩ = some (.int .i64 L[t].op) ∧ w.cell? ⟨b, off + t * 5 + 2, none⟩ = some (.int .i64 L[t].val.kind) ∧
      w.cell? ⟨b, off + t * 5 + 3, none⟩ = some (.int .i64 L[t].val.n) ∧ w.cell? ⟨b, off + t * 5 + 4, none⟩ = some (.string L[t].val.s) :=
  ⟨h.flat t ht 0 (by omega), h.flat t ht 1 (by omega), h.flat t ht 2 (by omega), h.flat t ht 3 (by omega), h.flat t ht 4 (by omega)⟩
theorem RowAt.set {p : Nat → Prop} {w : World} {b off : Nat} {L : List SetV} (h : RowAt setR p w (some ⟨b, off, none⟩) L) (t : Nat) (ht : t < L.length) :
    w.cell? ⟨b, off + t * 5, none⟩ = some (.string L[t].col) ∧ w.cell? ⟨b, off + t * 5 + 1, none⟩ = some (.string L[t].col2) ∧ w.cell? ⟨b, off + t * 5 + 2, none⟩ = some (.int .i64 L[t].val.kind) ∧
      w.cell? ⟨b, off + t * 5 + 3, none⟩ = some (.int .i64 L[t].val.n) ∧ w.cell? ⟨b, off + t * 5 + 4, none⟩ = some (.string L[t].val.s) :=
  ⟨h.flat t ht 0 (by omega), h.flat t ht 1 (by omega), h.flat t ht 2 (by omega), h.flat t ht 3 (by omega), h.flat t ht 4 (by omega)⟩
theorem RowAt.ix {p : Nat → Prop} {w : World} {b off : Nat} {L : List Ix} (h : RowAt ixR p w (some ⟨b, off, none⟩) L) (t : Nat) (ht : t < L.length) :
    ∃ a cap, w.cell? ⟨b, off + t * 3, none⟩ = some (.string L[t].name) ∧ w.cell? ⟨b, off + t * 3 + 1, none⟩ = some (.slice a L[t].cols.length cap) ∧ w.cell? ⟨b, off + t * 3 + 2, none⟩ = some (.int .i64 L[t].root) ∧
      SlV intR p w (.slice a L[t].cols.length cap) L[t].cols := by
  obtain ⟨cs, h1, a, cap, rfl, h2, h3, h4⟩ := h.get t ht
  exact ⟨a, cap, h1 0 (by decide), h1 1 (by decide), h1 2 (by decide), a, cap, rfl, h2, h3, h4⟩
end Go.Proofs.YtpfjakcfjpgbmaaGreatDoor
