/- Memory: loading, storing, new rows of cells. -/
import Derived.Test.YtpfjakcfjpgbmaaGreatDoorZN1
import Derived.ProofKit
namespace Go.Rx
set_option linter.unusedVariables false
set_option linter.unusedSimpArgs false

def fI {β : Type} (n : Int) (k : Int → β) : β := match n with
  | .ofNat m => fN m fun m => k (.ofNat m)
  | .negSucc m => fN m fun m => k (.negSucc m)
theorem fI_eq {β : Type} (n : Int) (k : Int → β) : fI n k = k n := by cases n <;> (unfold fI; dsimp only; rw [fN_eq])

noncomputable section
variable {P : Program} {N0 b0 : Nat} {w0 : World} {ρ : Ren} {h : T AObj} {w : World}

def Good (N0 b0 : Nat) (w0 : World) (ρ : Ren) (s' : St) (v : Value) (r : Result Value) : Prop :=
  ∃ ρ' w' v', r = .ok v' w' ∧ ρ.le ρ' ∧ Rel N0 b0 w0 ρ' s'.h w' ∧ VRel ρ' v v'
def GoodU (N0 b0 : Nat) (w0 : World) (ρ : Ren) (s' : St) (r : Result Unit) : Prop :=
  ∃ ρ' w', r = .ok () w' ∧ ρ.le ρ' ∧ Rel N0 b0 w0 ρ' s'.h w'
theorem Good.same {s : St} {v v' : Value} (r : Rel N0 b0 w0 ρ s.h w) (h : VRel ρ v v') : Good N0 b0 w0 ρ s v (.ok v' w) :=
  ⟨ρ, w, v', rfl, Ren.le_refl _, r, h⟩
theorem Good.same' {s s' : St} {v v' : Value} (r : Rel N0 b0 w0 ρ s.h w) (hh : s'.h = s.h) (h : VRel ρ v v') : Good N0 b0 w0 ρ s' v (.ok v' w) :=
  ⟨ρ, w, v', rfl, Ren.le_refl _, hh ▸ r, h⟩

def isAggD : TypeDesc → Bool
  | .struct _ | .array .. => true
  | _ => false
theorem run_isAgg {t : TypeId} {d : TypeDesc} (h : P.underlying t = some d) (w : World) : (isAgg t).run P w = .ok (isAggD d) w := by
  simp [isAgg, run_underlying h]
  cases d <;> rfl
theorem run_sizeOf' {t : TypeId} {I : TypeInfo} (h : P.info? t = some I) (w : World) : (sizeOf t).run P w = .ok I.size w := by
  simp [sizeOf, typeInfo, h]
theorem run_zeroValue' {t : TypeId} {I : TypeInfo} {z : Value} (h : P.info? t = some I) (hz : I.zero = some z) (w : World) : (zeroValue t).run P w = .ok z w := by
  simp [zeroValue, typeInfo, h, hz]

/-- The cells of a block. -/
theorem cells_rel {L : Loc} {c : List Value} {t : TypeId} {f0 f1 : Nat} {lo : Option Nat} (h : LiveObj ρ L w (.cells c t f0 f1 lo)) {i : Nat} {v : Value} (e : c[i]? = some v) :
    ∃ v', w.cell? ⟨L.blk, L.sh + i, none⟩ = some v' ∧ VRel ρ v v' := by
  obtain ⟨_, cs, el, fr, h1, _, _, _, _, h6, _⟩ := h
  obtain ⟨v', e', hv⟩ := h6.get e
  refine ⟨v', ?_, hv⟩
  rw [cell_of_row w _ _ cs el fr h1]
  have hi : i < c.length := (List.getElem?_eq_some_iff.1 e).1
  rw [List.getElem?_take_of_lt hi, List.getElem?_drop] at e'
  simpa using e'

def xload (P : Program) (t : TypeId) : Value → X Value
  | .pointer (some ⟨i, off, none⟩) => match P.underlying t with
    | some d => match isAggD d with
      | true => match P.info? t with
        | some I => (X.rdc i off I.size).bind fun p => X.pure (.agg ⟨p.1⟩)
        | none => X.fail
      | false => (X.rdc i off 1).bind fun p => match p.1 with
        | [v] => X.pure v
        | _ => X.fail
    | none => X.fail
  | _ => X.fail

theorem run_cells {L : Loc} {c : List Value} {t : TypeId} {f0 f1 off n : Nat} {lo : Option Nat} (h : LiveObj ρ L w (.cells c t f0 f1 lo)) (hl : ((c.drop off).take n).length = n) :
    ∃ l', (loadCells ⟨L.blk, L.sh + off, none⟩ n).run P w = .ok ⟨l'⟩ w ∧ VRels ρ ((c.drop off).take n) l' := by
  obtain ⟨_, cs, el, fr, q1, q2, q3, q4, q5, q6, q7⟩ := id h
  have hrow : ∀ j v, (((cs.toList.drop L.sh).take c.length).drop off |>.take n)[j]? = some v → w.cell? ((⟨L.blk, L.sh + off, none⟩ : Addr).add j) = some v := fun j v ej => by
    have hj : j < n := by
      have := (List.getElem?_eq_some_iff.1 ej).1
      simp only [List.length_take] at this; omega
    rw [List.getElem?_take_of_lt hj, List.getElem?_drop] at ej
    have hc : off + j < c.length := by
      have := (List.getElem?_eq_some_iff.1 ej).1
      simp only [List.length_take] at this; omega
    rw [List.getElem?_take_of_lt hc, List.getElem?_drop] at ej
    have ha : (⟨L.blk, L.sh + off, none⟩ : Addr).add j = ⟨L.blk, L.sh + (off + j), none⟩ := by
      unfold Addr.add; split <;> simp_all [Nat.add_assoc]
    rw [ha, cell_of_row w _ _ cs el fr q1]
    simpa using ej
  have hrun := run_loadCells_list (P := P) (w := w) _ _ hrow
  have hl2 := ((q6.drop off).take n).length
  rw [hl] at hl2
  rw [hl2] at hrun
  exact ⟨_, hrun, (q6.drop off).take n⟩

theorem xload_at {t : TypeId} {v v' : Value} {s s' : St} {x : Value} (r : Rel N0 b0 w0 ρ s.h w) (hv : VRel ρ v v') (h : (xload P t v).run s = some (x, s')) :
    s'.h = s.h ∧ ∃ a x', v' = .pointer (some a) ∧ (loadVar t a).run P w = .ok x' w ∧ VRel ρ x x' := by
  unfold xload at h
  split at h
  case h_2 => cases h
  case h_1 i off =>
    cases hv with
    | ptr _ hL =>
      rename_i L
      split at h
      case h_2 => cases h
      case h_1 d hd =>
        split at h
        case h_1 hag =>
          split at h
          case h_2 => cases h
          case h_1 I hI =>
            obtain ⟨⟨l, tt, f0, f1, lo⟩, s1, h1, h2⟩ := X.bind_some h
            obtain ⟨rfl, rfl⟩ := X.pure_some h2
            obtain ⟨c, hg, rfl, hlen, hh, _⟩ := X.rdc_some h1
            obtain ⟨M, e, hlive⟩ := r.obj i _ hg
            rw [hL] at e
            cases e
            obtain ⟨l', e1, e2⟩ := run_cells (P := P) hlive hlen
            refine ⟨hh, _, .agg ⟨l'⟩, rfl, ?_, .agg e2⟩
            simp only [loadVar, Sem.run_bind, Sem.run_pure, Result.andThen_ok, run_isAgg hd, hag, if_true, run_sizeOf' hI, e1]
        case h_2 hag =>
          obtain ⟨⟨l, tt, f0, f1, lo⟩, s1, h1, h2⟩ := X.bind_some h
          obtain ⟨c, hg, e, hlen, hh, _⟩ := X.rdc_some h1
          split at h2
          case h_2 => cases h2
          case h_1 u hu =>
            obtain ⟨rfl, rfl⟩ := X.pure_some h2
            obtain ⟨M, eM, hlive⟩ := r.obj i _ hg
            rw [hL] at eM
            cases eM
            have hu : l = [x] := hu
            have hc : c[off]? = some x := by
              have := congrArg (·[0]?) (e.symm.trans hu)
              simpa using this
            obtain ⟨y, hy, hr⟩ := cells_rel hlive hc
            refine ⟨hh, _, y, rfl, ?_, hr⟩
            simp only [loadVar, Sem.run_bind, Sem.run_pure, Result.andThen_ok, run_isAgg hd, hag, Bool.false_eq_true, if_false, run_load, hy]
theorem xload_ok {t : TypeId} {v v' : Value} {s s' : St} {x : Value} (r : Rel N0 b0 w0 ρ s.h w) (hv : VRel ρ v v') (h : (xload P t v).run s = some (x, s')) :
    Good N0 b0 w0 ρ s' x ((Instr.loadAt t v').run P w) := by
  obtain ⟨hh, a, x', rfl, e, hr⟩ := xload_at r hv h
  simp only [Instr.loadAt, Instr.sureAddr, Sem.run_bind, Sem.run_pure, Result.andThen_ok, e]
  exact .same' r hh hr

/-- The cells of a value, all of one cell each. -/
def cellsOf : Value → List Value
  | .agg cs => cs.toList
  | v => [v]
def oneL : List Value → Bool
  | [] => true
  | .agg _ :: _ | .tuple _ :: _ => false
  | _ :: l => oneL l
theorem cellsOf_eq (v : Value) : v.cells.toList = cellsOf v := by cases v <;> rfl
theorem VRel.cells {v v' : Value} (h : VRel ρ v v') : VRels ρ (cellsOf v) (cellsOf v') := by
  cases h <;> first
    | assumption
    | exact .cons (by constructor <;> assumption) .nil
    | exact .cons (by constructor) .nil
theorem oneL_rel {l l' : List Value} (h : VRels ρ l l') (ho : oneL l = true) : ∀ v ∈ l', v.oneCell' = true := by
  induction l generalizing l' with
  | nil => cases h; simp
  | cons x l ih =>
    cases h with
    | cons h1 h2 =>
      intro v hv
      have hx : oneL l = true ∧ ∀ a, x ≠ .agg a ∧ x ≠ .tuple a := by
        cases x <;> first | (simp only [oneL] at ho; exact ⟨ho, fun a => ⟨by simp, by simp⟩⟩) | (simp [oneL] at ho)
      rcases List.mem_cons.1 hv with rfl | hv
      · cases h1 <;> first | rfl | (exact absurd rfl (hx.2 _).1) | (exact absurd rfl (hx.2 _).2)
      · exact ih h2 hx.1 v hv

def World.put (w : World) (b : Nat) (o : Obj) : World := { w with heap := w.heap.setIfInBounds b o }
theorem setCell_put {b off : Nat} {cs : Array Value} {el : TypeId} {fr : Nat × Nat} {v : Value} (h : w.heap[b]? = some (.cells cs el fr)) :
    w.setCell ⟨b, off, none⟩ v = World.put w b (.cells (cs.setIfInBounds off v) el fr) := by
  have hb : b < w.heap.size := (Array.getElem?_eq_some_iff.1 h).1
  have hbe : w.heap[b] = .cells cs el fr := (Array.getElem?_eq_some_iff.1 h).2
  unfold World.setCell World.put
  congr 1
  apply Array.ext_getElem?
  intro i
  rw [Array.getElem?_modify, Array.getElem?_setIfInBounds]
  by_cases hi : b = i
  · subst hi
    simp [hb, hbe]
  · simp [hi]
theorem run_storeCells_put {b : Nat} {el : TypeId} {fr : Nat × Nat} (base : Nat) : ∀ (vs : List Value) (i : Nat) (w : World) (cs : Array Value), w.heap[b]? = some (.cells cs el fr) →
    (∀ v ∈ vs, v.oneCell' = true) → base + i + vs.length ≤ cs.size → (∀ j, base + i ≤ j → j < base + i + vs.length → ¬ (fr.1 ≤ j ∧ j < fr.2)) →
    (storeCells ⟨b, base, none⟩ vs i).run P w = .ok () (World.put w b (.cells ⟨cs.toList.take (base + i) ++ vs ++ cs.toList.drop (base + i + vs.length)⟩ el fr)) := by
  intro vs
  induction vs with
  | nil =>
    intro i w cs h _ hl _
    have : w.heap.setIfInBounds b (.cells cs el fr) = w.heap := by
      apply Array.ext_getElem?
      intro k
      rw [Array.getElem?_setIfInBounds]
      by_cases hk : b = k
      · subst hk; simp [(Array.getElem?_eq_some_iff.1 h).1, (Array.getElem?_eq_some_iff.1 h).2]
      · simp [hk]
    simp [storeCells, World.put, this]
  | cons v vs ih =>
    intro i w cs h hone hl hfr
    have hb : b < w.heap.size := (Array.getElem?_eq_some_iff.1 h).1
    have ha : (⟨b, base, none⟩ : Addr).add i = ⟨b, base + i, none⟩ := by unfold Addr.add; split <;> simp_all
    have hlt : base + i < cs.size := by simp at hl; omega
    have hc : w.cell? ⟨b, base + i, none⟩ = some cs[base + i] := by rw [cell_of_row w _ _ cs el fr h]; simp [hlt]
    have hf : w.frozen? ⟨b, base + i, none⟩ = false := by
      have := hfr (base + i) (Nat.le_refl _) (by simp)
      simp only [World.frozen?, h]
      simpa using this
    have h2 : (World.put w b (.cells (cs.setIfInBounds (base + i) v) el fr)).heap[b]? = some (.cells (cs.setIfInBounds (base + i) v) el fr) := by
      simp [World.put, hb]
    simp only [storeCells, Sem.run_bind, ha, run_store P w _ v .plain (hone v (by simp)), hc, hf, Bool.false_eq_true, if_false, Result.andThen_ok, setCell_put h]
    rw [ih (i + 1) _ _ h2 (fun u hu => hone u (by simp [hu])) (by simp at hl ⊢; omega) (fun j h1 h2 => hfr j (by omega) (by simp; omega))]
    congr 1
    simp only [World.put, Array.setIfInBounds_setIfInBounds]
    congr 3
    have e1 : (cs.setIfInBounds (base + i) v).toList = cs.toList.set (base + i) v := by simp
    rw [e1]
    congr 2
    · rw [show base + (i + 1) = base + i + 1 from by omega, List.take_add_one]
      have : base + i < cs.toList.length := by simpa using hlt
      simp [List.getElem?_set, hlt, List.take_set_of_le]
    · rw [List.drop_set]
      simp
      rw [if_pos (by omega)]
      congr 1
      omega

def xstore (P : Program) (N0 : Nat) (t : TypeId) (v x : Value) : X Unit := match v with
  | .pointer (some ⟨i, off, none⟩) => match P.info? t with
    | some I => fL (cellsOf x) fun vs => (X.rdc i off 0).bind fun p => match p with
      | (_, _, f0, f1, _) => match Nat.beq vs.length I.size && oneL vs && Nat.ble N0 i && (Nat.ble f1 off || Nat.ble (off + vs.length) f0) && Nat.ble f0 1048576 with
        | true => X.wrc i off vs
        | false => X.fail
    | none => X.fail
  | _ => X.fail

theorem drop_take_splice {c : List Value} {cs : List Value} {sh off : Nat} {vs : List Value} (h : sh + c.length ≤ cs.length) (hl : off + vs.length ≤ c.length) :
    ((cs.take (sh + off) ++ vs ++ cs.drop (sh + off + vs.length)).drop sh).take c.length =
      (((cs.drop sh).take c.length).take off ++ vs ++ ((cs.drop sh).take c.length).drop (off + vs.length)) := by
  apply List.ext_getElem?
  intro k
  simp only [List.getElem?_take, List.getElem?_drop, List.getElem?_append, List.length_append, List.length_take, List.length_drop]
  repeat' split
  all_goals first | rfl | (exfalso; omega) | (congr 1; omega) | skip
  all_goals simp_all
  all_goals first | omega | (congr 1; omega) | skip

/-- Cells stored on both sides. -/
theorem Rel.wrc {L : Loc} {i off : Nat} {c vs vs' : List Value} {t : TypeId} {f0 f1 : Nat} {lo : Option Nat} (r : Rel N0 b0 w0 ρ h w) (hg : h.get i = some (.cells c t f0 f1 lo)) (hL : ρ i = some L) (hN : N0 ≤ i)
    (hle : off + vs.length ≤ c.length) (hs : f0 ≤ 1048576) (hf : f1 ≤ off ∨ off + vs.length ≤ f0) (hv : VRels ρ vs vs') (hone : oneL vs = true) :
    ∃ w', (storeCells ⟨L.blk, L.sh + off, none⟩ vs').run P w = .ok () w' ∧ Rel N0 b0 w0 ρ (h.set i (.cells (X.spl c off vs) t f0 f1 lo)) w' := by
  obtain ⟨M, e, hlive⟩ := r.obj i _ hg
  rw [hL] at e
  cases e
  have hlen := hv.length
  obtain ⟨q0, cs, el, fr, q1, q2, q3, q4, q5, q6, q7⟩ := id hlive
  have hrun := run_storeCells_put (P := P) (b := L.blk) (el := el) (fr := fr) (L.sh + off) vs' 0 w cs q1 (oneL_rel hv hone)
    (by omega) (fun j j1 j2 ⟨j3, j4⟩ => by have := q7 j j3 j4 (by omega) (by omega); omega)
  simp only [Nat.add_zero] at hrun
  refine ⟨_, hrun, ?_⟩
  refine r.upd hN hg rfl (not_seal hs) hL _ _ ⟨q0, ⟨cs.toList.take (L.sh + off) ++ vs' ++ cs.toList.drop (L.sh + off + vs'.length)⟩, el, fr, ?_, q2, ?_, ?_, ?_, ?_, q7⟩
  · simp [(Array.getElem?_eq_some_iff.1 q1).1]
  · simp; omega
  · intro hlo; rw [X.spl_length hle]; exact q4 hlo
  · rw [X.spl_length hle]; exact q5
  · rw [X.spl_length hle]
    have := drop_take_splice (c := c) (cs := cs.toList) (sh := L.sh) (off := off) (vs := vs') (by simpa using by omega) (by omega)
    rw [this]
    exact ((q6.take off).append hv).append (hlen ▸ q6.drop _)
theorem xstore_ok {t : TypeId} {v v' x x' : Value} {s s' : St} (r : Rel N0 b0 w0 ρ s.h w) (hv : VRel ρ v v') (hx : VRel ρ x x') (h : (xstore P N0 t v x).run s = some ((), s')) :
    GoodU N0 b0 w0 ρ s' ((Instr.storeAt t v' x').run P w) := by
  unfold xstore at h
  split at h
  case h_2 => cases h
  case h_1 i off =>
    cases hv with
    | ptr _ hL =>
      rename_i L
      split at h
      case h_2 => cases h
      case h_1 I hI =>
        rw [fL_eq] at h
        obtain ⟨⟨l, tt, f0, f1, lo⟩, s1, h1, h2⟩ := X.bind_some h
        obtain ⟨c, hg, _, _, hh, _⟩ := X.rdc_some h1
        dsimp only at h2
        split at h2
        case h_2 => cases h2
        case h_1 hc =>
          simp only [Bool.and_eq_true, Bool.or_eq_true] at hc
          obtain ⟨⟨⟨⟨c1, c2⟩, c3⟩, c4⟩, c5⟩ := hc
          have c1 := Nat.eq_of_beq_eq_true c1
          have c3 := Nat.le_of_ble_eq_true c3
          have c4 := c4.imp Nat.le_of_ble_eq_true Nat.le_of_ble_eq_true
          obtain ⟨c', t', f0', f1', lo', hg', hle, e2, _⟩ := X.wrc_some h2
          rw [hh] at hg'
          rw [hg] at hg'
          cases hg'
          have hcx := VRel.cells hx
          obtain ⟨w', e3, r'⟩ := Rel.wrc (P := P) r hg hL c3 hle (Nat.le_of_ble_eq_true c5) c4 hcx c2
          have hsz : x'.cells.size = I.size := by rw [← c1, ← hcx.length, ← cellsOf_eq]; simp
          refine ⟨ρ, w', ?_, Ren.le_refl _, by rw [e2, hh]; exact r'⟩
          simp only [Instr.storeAt, Instr.sureAddr, storeVar, Sem.run_bind, Sem.run_pure, Result.andThen_ok, run_sizeOf' hI, hsz, ne_eq, not_true, if_false, cellsOf_eq, e3]

/-- A new row of cells. -/
def xnew (N0 : Nat) (c : List Value) (t : TypeId) : X Nat := (X.new (.cells c t 0 0 none)).bind fun i => match decide (N0 ≤ i) with
  | true => X.pure i
  | false => X.fail
theorem xnew_ok {c c' : List Value} {t : TypeId} {i : Nat} {s s' : St} (r : Rel N0 b0 w0 ρ s.h w) (hc : VRels ρ c c') (h : (xnew N0 c t).run s = some (i, s')) :
    ∃ ρ' L, ρ.le ρ' ∧ ρ' i = some L ∧ L.blk = w.heap.size ∧ L.sh = 0 ∧ Rel N0 b0 w0 ρ' s'.h { w with heap := w.heap.push (.cells ⟨c'⟩ t) } := by
  obtain ⟨j, s1, h1, h⟩ := X.bind_some h
  obtain ⟨rfl, h2, h3, _⟩ := X.new_some h1
  split at h
  case h_2 => cases h
  case h_1 hn =>
    obtain ⟨rfl, rfl⟩ := X.pure_some h
    have hn : N0 ≤ s.nx := by simpa using hn
    have hle : ρ.le (ρ.put s.nx ⟨w.heap.size, 0, c.length, none⟩) := Ren.le_put (r.new _ hn h2)
    refine ⟨ρ.put s.nx ⟨w.heap.size, 0, c.length, none⟩, _, hle, Ren.put_self, rfl, rfl, ?_⟩
    rw [h3]
    refine r.push hn h2 _ _ _ rfl ⟨rfl, ⟨c'⟩, t, (0, 0), by simp, rfl, hc.length, fun _ => ⟨rfl, rfl⟩, by simp, ?_, fun j h1 h2 => by dsimp only at h2; omega⟩
    have : (c'.drop 0).take c.length = c' := by rw [← hc.length]; simp
    rw [show (⟨c'⟩ : Array Value).toList = c' from rfl, this]
    exact hc.mono hle
theorem run_newRow (t : TypeId) (cs : Array Value) (w : World) : (newRow t cs).run P w = .ok ⟨w.heap.size, 0, none⟩ { w with heap := w.heap.push (.cells cs t) } := by
  simp [newRow]

/-- A pointer to a new variable. -/
def xbox (N0 : Nat) (t : TypeId) (v : Value) : X Value := fL (cellsOf v) fun c => (xnew N0 c t).bind fun i => X.pure (.pointer (some ⟨i, 0, none⟩))
theorem xbox_ok {t : TypeId} {v v' x : Value} {s s' : St} (r : Rel N0 b0 w0 ρ s.h w) (hv : VRel ρ v v') (h : (xbox N0 t v).run s = some (x, s')) :
    Good N0 b0 w0 ρ s' x ((Instr.box t v').run P w) := by
  unfold xbox at h
  rw [fL_eq] at h
  obtain ⟨i, s1, h1, h⟩ := X.bind_some h
  obtain ⟨rfl, rfl⟩ := X.pure_some h
  obtain ⟨ρ', L, hle, hL, hb, hs, hr⟩ := xnew_ok r hv.cells h1
  refine ⟨ρ', _, .pointer (some ⟨w.heap.size, 0, none⟩), ?_, hle, hr, ?_⟩
  · have : v'.cells = ⟨cellsOf v'⟩ := by rw [← cellsOf_eq]
    simp [Instr.box, newVar, run_newRow, this]
  · have := VRel.ptr (ρ := ρ') 0 hL
    rwa [hb, hs] at this
def xalloc (P : Program) (N0 : Nat) (t : TypeId) : X Value := match P.info? t with
  | some I => match I.zero with
    | some z => match plainL (cellsOf z) with
      | true => xbox N0 t z
      | false => X.fail
    | none => X.fail
  | none => X.fail
theorem VRel.ofCells {v : Value} (h : plainL (cellsOf v) = true) : VRel ρ v v := by
  cases v <;> first
    | (simp only [cellsOf, plainL, Bool.and_true] at h; exact .plain h)
    | exact .agg (.plain h)
theorem xalloc_ok {t : TypeId} {x : Value} {s s' : St} (r : Rel N0 b0 w0 ρ s.h w) (h : (xalloc P N0 t).run s = some (x, s')) :
    Good N0 b0 w0 ρ s' x ((Instr.alloc t true (.tuple #[])).run P w) := by
  unfold xalloc at h
  split at h
  case h_2 => cases h
  case h_1 I hI =>
    split at h
    case h_2 => cases h
    case h_1 z hz =>
      split at h
      case h_2 => cases h
      case h_1 hp =>
        have := xbox_ok (P := P) r (VRel.ofCells hp) h
        simpa [Instr.box, Instr.alloc, run_zeroValue' hI hz] using this
end
end Go.Rx
