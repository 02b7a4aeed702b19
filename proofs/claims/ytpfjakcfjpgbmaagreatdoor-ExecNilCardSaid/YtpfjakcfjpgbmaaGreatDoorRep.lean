/- How data lie in memory: a datum's cells, and what they point to; seat-free. -/
import Derived.Test.YtpfjakcfjpgbmaaGreatDoorLib
namespace Go.Proofs.YtpfjakcfjpgbmaaGreatDoor
set_option linter.unusedVariables false
set_option linter.unusedSimpArgs false
open Go.RowKit

theorem below_drewN {B : Nat} {a w : World} (h : Below B a w) : ∀ n, Below B a (w.drewN n) := fun _ => ⟨h.os, h.tape, h.output, h.size, h.block⟩
/-- how a datum lies in memory: 'ok p w cs x': the cells cs are the datum x in the world w, and every block that they lead to is in p -/
structure Rep (α : Type) where
  sz : Nat
  ok : (Nat → Prop) → World → List Value → α → Prop
  len : ∀ {p w cs x}, ok p w cs x → cs.length = sz
  keep : ∀ {p w w' cs x}, ok p w cs x → (∀ k, p k → k < w.heap.size → w'.heap[k]? = w.heap[k]?) → ok p w' cs x
  weaken : ∀ {p q w cs x}, ok p w cs x → (∀ k, p k → q k) → ok q w cs x
  bound : ∀ {p w cs x}, ok p w cs x → ok (fun k => p k ∧ k < w.heap.size) w cs x

/-- a stretch of cells in a block that is there; no string shares them -/
structure Live (w : World) (b off n : Nat) : Prop where
  lt : b < w.heap.size
  free : ∀ j, j < n → w.frozen? ⟨b, off + j, none⟩ = false
theorem Live.keep {w w' : World} {b off n : Nat} (h : Live w b off n) (e : w'.heap[b]? = w.heap[b]?) : Live w' b off n := by
  refine ⟨?_, fun j hj => (World.frozen?_of_block (w := w) e).trans (h.free j hj)⟩
  rw [Array.getElem?_eq_getElem h.lt] at e
  exact (Array.getElem?_eq_some_iff.1 e).1
theorem Live.of_block {w : World} {b off n : Nat} {cs : Array Value} {T : TypeId} (h : w.heap[b]? = some (.cells cs T (0, 0))) : Live w b off n :=
  ⟨(Array.getElem?_eq_some_iff.1 h).1, fun j _ => by simp [World.frozen?, h]⟩
theorem Live.sub {w : World} {b off n off' n' : Nat} (h : Live w b off n) (h1 : off ≤ off') (h2 : off' + n' ≤ off + n) : Live w b off' n' :=
  ⟨h.lt, fun j hj => by
    have := h.free (off' - off + j) (by omega)
    rwa [show off + (off' - off + j) = off' + j by omega] at this⟩
/-- the data L, one after the other from a on -/
def RowAt {α : Type} (R : Rep α) (p : Nat → Prop) (w : World) (a : Option Addr) (L : List α) : Prop :=
  L = [] ∨ ∃ b off, a = some ⟨b, off, none⟩ ∧ p b ∧ Live w b off (L.length * R.sz) ∧ ∀ t (ht : t < L.length), ∃ cs, (∀ j, j < R.sz → w.cell? ⟨b, off + t * R.sz + j, none⟩ = cs[j]?) ∧ R.ok p w cs L[t]

theorem RowAt.keep {α : Type} {R : Rep α} {p : Nat → Prop} {w w' : World} {a : Option Addr} {L : List α} (h : RowAt R p w a L) (hk : ∀ k, p k → k < w.heap.size → w'.heap[k]? = w.heap[k]?) : RowAt R p w' a L := by
  rcases h with h | ⟨b, off, ha, hp, hb, h⟩
  · exact Or.inl h
  · refine Or.inr ⟨b, off, ha, hp, ?_, fun t ht => ?_⟩
    · exact hb.keep (hk b hp hb.lt)
    · obtain ⟨cs, h1, h2⟩ := h t ht
      exact ⟨cs, fun j hj => (World.cell?_of_block (hk b hp hb.lt)).trans (h1 j hj), R.keep h2 hk⟩
theorem RowAt.weaken {α : Type} {R : Rep α} {p q : Nat → Prop} {w : World} {a : Option Addr} {L : List α} (h : RowAt R p w a L) (hq : ∀ k, p k → q k) : RowAt R q w a L := by
  rcases h with h | ⟨b, off, ha, hp, hb, h⟩
  · exact Or.inl h
  · exact Or.inr ⟨b, off, ha, hq b hp, hb, fun t ht => by
      obtain ⟨cs, h1, h2⟩ := h t ht
      exact ⟨cs, h1, R.weaken h2 hq⟩⟩
theorem RowAt.bound {α : Type} {R : Rep α} {p : Nat → Prop} {w : World} {a : Option Addr} {L : List α} (h : RowAt R p w a L) : RowAt R (fun k => p k ∧ k < w.heap.size) w a L := by
  rcases h with h | ⟨b, off, ha, hp, hb, h⟩
  · exact Or.inl h
  · exact Or.inr ⟨b, off, ha, ⟨hp, hb.lt⟩, hb, fun t ht => by
      obtain ⟨cs, h1, h2⟩ := h t ht
      exact ⟨cs, h1, R.bound h2⟩⟩
theorem RowAt.below {α : Type} {R : Rep α} {p : Nat → Prop} {w w' : World} {a : Option Addr} {L : List α} (h : RowAt R p w a L) (hb : Below w.heap.size w w') : RowAt R p w' a L :=
  h.keep fun k _ hk => hb.block k hk
theorem Rep.below {α : Type} (R : Rep α) {p : Nat → Prop} {w w' : World} {cs : List Value} {x : α} (h : R.ok p w cs x) (hb : Below w.heap.size w w') : R.ok p w' cs x :=
  R.keep h fun k _ hk => hb.block k hk
theorem RowAt.nil {α : Type} {R : Rep α} {p : Nat → Prop} {w : World} {a : Option Addr} : RowAt R p w a [] := Or.inl rfl
/-- one element's cells -/
theorem RowAt.get {α : Type} {R : Rep α} {p : Nat → Prop} {w : World} {b off : Nat} {L : List α} (h : RowAt R p w (some ⟨b, off, none⟩) L) (t : Nat) (ht : t < L.length) :
    ∃ cs, (∀ j, j < R.sz → w.cell? ⟨b, off + t * R.sz + j, none⟩ = cs[j]?) ∧ R.ok p w cs L[t] := by
  rcases h with h | ⟨b', off', ha, _, _, h⟩
  · rw [h] at ht; cases ht
  · simp only [Option.some.injEq, Addr.mk.injEq] at ha
    obtain ⟨rfl, rfl, _⟩ := ha
    exact h t ht
theorem RowAt.addr {α : Type} {R : Rep α} {p : Nat → Prop} {w : World} {a : Option Addr} {L : List α} (h : RowAt R p w a L) (hL : L ≠ []) : ∃ b off, a = some ⟨b, off, none⟩ ∧ p b ∧ b < w.heap.size := by
  rcases h with h | ⟨b, off, ha, hp, hb, _⟩
  · exact absurd h hL
  · exact ⟨b, off, ha, hp, hb.lt⟩
/-- the stretch that the data take -/
theorem RowAt.live {α : Type} {R : Rep α} {p : Nat → Prop} {w : World} {b off : Nat} {L : List α} (h : RowAt R p w (some ⟨b, off, none⟩) L) (hL : L ≠ []) : p b ∧ Live w b off (L.length * R.sz) := by
  rcases h with h | ⟨b', off', ha, hp, hb, _⟩
  · exact absurd h hL
  · simp only [Option.some.injEq, Addr.mk.injEq] at ha
    obtain ⟨rfl, rfl, _⟩ := ha
    exact ⟨hp, hb⟩

def intR : Rep Int where
  sz := 1
  ok := fun _ _ cs x => cs = [.int .i64 x]
  len := by rintro p w cs x rfl; rfl
  keep := fun h _ => h
  weaken := fun h _ => h
  bound := fun h => h
def strR : Rep ByteArray where
  sz := 1
  ok := fun _ _ cs x => cs = [.string x]
  len := by rintro p w cs x rfl; rfl
  keep := fun h _ => h
  weaken := fun h _ => h
  bound := fun h => h
/-- a datum without pointers, its cells by a function -/
def flatR {α : Type} (sz : Nat) (enc : α → List Value) (hl : ∀ x, (enc x).length = sz) : Rep α where
  sz := sz
  ok := fun _ _ cs x => cs = enc x
  len := by rintro p w cs x rfl; exact hl x
  keep := fun h _ => h
  weaken := fun h _ => h
  bound := fun h => h
/-- a slice -/
def sliceR {α : Type} (R : Rep α) : Rep (List α) where
  sz := 1
  ok := fun p w cs L => ∃ a cap, cs = [.slice a L.length cap] ∧ L.length ≤ cap ∧ L.length ≤ 140737488355328 ∧ RowAt R p w a L
  len := by rintro p w cs x ⟨a, cap, rfl, _⟩; rfl
  keep := by rintro p w w' cs x ⟨a, cap, h0, h1, h2, h3⟩ hk; exact ⟨a, cap, h0, h1, h2, h3.keep hk⟩
  weaken := by rintro p q w cs x ⟨a, cap, h0, h1, h2, h3⟩ hk; exact ⟨a, cap, h0, h1, h2, h3.weaken hk⟩
  bound := by rintro p w cs x ⟨a, cap, h0, h1, h2, h3⟩; exact ⟨a, cap, h0, h1, h2, h3.bound⟩
/-- a slice's value -/
def SlV {α : Type} (R : Rep α) (p : Nat → Prop) (w : World) (v : Value) (L : List α) : Prop :=
  ∃ a cap, v = .slice a L.length cap ∧ L.length ≤ cap ∧ L.length ≤ 140737488355328 ∧ RowAt R p w a L
theorem SlV.keep {α : Type} {R : Rep α} {p : Nat → Prop} {w w' : World} {v : Value} {L : List α} (h : SlV R p w v L) (hk : ∀ k, p k → k < w.heap.size → w'.heap[k]? = w.heap[k]?) : SlV R p w' v L := by
  obtain ⟨a, cap, h0, h1, h2, h3⟩ := h
  exact ⟨a, cap, h0, h1, h2, h3.keep hk⟩
theorem SlV.weaken {α : Type} {R : Rep α} {p q : Nat → Prop} {w : World} {v : Value} {L : List α} (h : SlV R p w v L) (hk : ∀ k, p k → q k) : SlV R q w v L := by
  obtain ⟨a, cap, h0, h1, h2, h3⟩ := h
  exact ⟨a, cap, h0, h1, h2, h3.weaken hk⟩
theorem SlV.bound {α : Type} {R : Rep α} {p : Nat → Prop} {w : World} {v : Value} {L : List α} (h : SlV R p w v L) : SlV R (fun k => p k ∧ k < w.heap.size) w v L := by
  obtain ⟨a, cap, h0, h1, h2, h3⟩ := h
  exact ⟨a, cap, h0, h1, h2, h3.bound⟩
theorem SlV.below {α : Type} {R : Rep α} {p : Nat → Prop} {w w' : World} {v : Value} {L : List α} (h : SlV R p w v L) (hb : Below w.heap.size w w') : SlV R p w' v L :=
  h.keep fun k _ hk => hb.block k hk

theorem RowAt.int {p : Nat → Prop} {w : World} {b off : Nat} {L : List Int} (h : RowAt intR p w (some ⟨b, off, none⟩) L) (t : Nat) (ht : t < L.length) : w.cell? ⟨b, off + t, none⟩ = some (.int .i64 L[t]) := by
  obtain ⟨cs, h1, rfl⟩ := h.get t ht
  simpa [intR] using h1 0 (by simp [intR])
theorem RowAt.str {p : Nat → Prop} {w : World} {b off : Nat} {L : List ByteArray} (h : RowAt strR p w (some ⟨b, off, none⟩) L) (t : Nat) (ht : t < L.length) : w.cell? ⟨b, off + t, none⟩ = some (.string L[t]) := by
  obtain ⟨cs, h1, rfl⟩ := h.get t ht
  simpa [strR] using h1 0 (by simp [strR])

/-- what an owned row holds, cell by cell, as a row of data; 'each': the cells of every element are that element -/
theorem RowAt.of_owns {α : Type} {R : Rep α} {w : World} {base : Nat} {e : TypeId} {v : Value} {xs : List Value} {L : List α} {p : Nat → Prop} (h : w.ownsRow base e R.sz v L.length xs) (hp : ∀ k, base ≤ k → p k)
    (each : ∀ t (ht : t < L.length), R.ok p w ((xs.drop (t * R.sz)).take R.sz) L[t]) : ∃ a cap, v = .slice a L.length cap ∧ L.length ≤ cap ∧ RowAt R p w a L ∧ (∀ g, v.ownBlock = some g → base ≤ g) := by
  obtain ⟨hlen, ⟨rfl, h0⟩ | ⟨g, cap, cur, rfl, hb, hg, hn, _, hsz, htk⟩⟩ := h
  · have : L = [] := List.eq_nil_of_length_eq_zero h0
    subst this
    exact ⟨none, 0, rfl, Nat.le_refl _, RowAt.nil, fun g hg => by simp [Value.ownBlock] at hg⟩
  · refine ⟨some ⟨g, 0, none⟩, cap, rfl, hn, Or.inr ⟨g, 0, rfl, hp g hb, Live.of_block hg, fun t ht => ⟨_, fun j hj => ?_, each t ht⟩⟩, fun k hk => by simp [Value.ownBlock] at hk; omega⟩
    have hlt : t * R.sz + j < L.length * R.sz := by
      have : (t + 1) * R.sz ≤ L.length * R.sz := Nat.mul_le_mul_right _ ht
      have h2 : (t + 1) * R.sz = t * R.sz + R.sz := by rw [Nat.add_mul, Nat.one_mul]
      omega
    have e1 : w.cell? ⟨g, 0 + t * R.sz + j, none⟩ = cur[t * R.sz + j]? := by simp [World.cell?, hg]
    rw [e1, List.getElem?_take_of_lt hj, List.getElem?_drop, ← htk, List.getElem?_take_of_lt hlt, Array.getElem?_toList]

theorem RowAt.of_owns_flat {α : Type} {w : World} {base : Nat} {e : TypeId} {v : Value} {L : List α} {p : Nat → Prop} {sz : Nat} {enc : α → List Value} {hl : ∀ x, (enc x).length = sz} (h : w.ownsRow base e sz v L.length (L.flatMap enc)) (hp : ∀ k, base ≤ k → p k) :
    ∃ a cap, v = .slice a L.length cap ∧ L.length ≤ cap ∧ RowAt (flatR sz enc hl) p w a L ∧ (∀ g, v.ownBlock = some g → base ≤ g) := by
  refine RowAt.of_owns (R := flatR sz enc hl) h hp fun t ht => ?_
  show List.take sz (List.drop (t * sz) (L.flatMap enc)) = enc L[t]
  have key : ∀ (M : List α) (t : Nat) (ht : t < M.length), List.take sz (List.drop (t * sz) (M.flatMap enc)) = enc M[t] := by
    intro M
    induction M with
    | nil => intro t ht; cases ht
    | cons x M ih =>
      intro t ht
      rw [List.flatMap_cons]
      cases t with
      | zero =>
        simp only [Nat.zero_mul, List.drop_zero, List.getElem_cons_zero]
        rw [List.take_append_of_le_length (by rw [hl]; exact Nat.le_refl _), List.take_of_length_le (by rw [hl]; exact Nat.le_refl _)]
      | succ t =>
        have e2 : (t + 1) * sz = (enc x).length + t * sz := by rw [Nat.add_mul, Nat.one_mul, hl]; omega
        have e3 : List.drop ((enc x).length + t * sz) (enc x ++ M.flatMap enc) = List.drop (t * sz) (M.flatMap enc) := by simp [List.drop_append]
        rw [e2, e3]
        simpa using ih t (by simpa using ht)
  exact key L t ht
end Go.Proofs.YtpfjakcfjpgbmaaGreatDoor
