/- Appending and copying. -/
import Derived.Test.YtpfjakcfjpgbmaaGreatDoorRxQ
namespace Go.Rx
set_option linter.unusedVariables false
set_option linter.unusedSimpArgs false
noncomputable section
variable {P : Program} {N0 b0 : Nat} {w0 : World} {ρ : Ren} {w : World}

def byteV (b : UInt8) : Value := .int .u8 b.toNat
def bytesV : List UInt8 → List Value
  | [] => []
  | b :: l => fN b.toNat fun n => .int .u8 (.ofNat n) :: bytesV l
theorem bytesV_eq (l : List UInt8) : bytesV l = l.map byteV := by
  induction l with
  | nil => rfl
  | cons b l ih => rw [bytesV, fN_eq, ih]; rfl
theorem bytesV_rel (l : List UInt8) : VRels ρ (bytesV l) (l.map byteV) := by
  rw [bytesV_eq]
  induction l with
  | nil => exact .nil
  | cons b l ih => exact .cons (.int ..) ih
def lenV : Value → Option Nat
  | .slice _ n _ => some n
  | .string s => some s.data.toList.length
  | _ => none
/-- The first n elements, in cells. -/
def xfirst (size n : Nat) : Value → X (List Value)
  | .slice (some ⟨i, off, none⟩) _ _ => fN (n * size) fun m => (X.rdc i off m).bind fun p => X.pure p.1
  | .slice none 0 _ => match n with
    | 0 => X.pure []
    | _ => X.fail
  | .string s => match Nat.beq size 1 with
    | true => fL (bytesV (s.data.toList.take n)) X.pure
    | false => X.fail
  | _ => X.fail
theorem xfirst_ok {size n : Nat} {x x' : Value} {s s' : St} {l : List Value} (r : Rel N0 b0 w0 ρ s.h w) (hx : VRel ρ x x') (h : (xfirst size n x).run s = some (l, s')) (hn : ∀ len, lenV x = some len → n ≤ len) :
    s'.h = s.h ∧ s'.nx = s.nx ∧ ∃ l', (Builtin.firstCells size n x').run P w = .ok ⟨l'⟩ w ∧ VRels ρ l l' := by
  unfold xfirst at h
  split at h
  · rename_i i off len cap
    cases hx with
    | slice _ _ hL _ =>
      rw [fN_eq] at h
      obtain ⟨⟨l0, tt, f0, f1, lo⟩, s1, g1, h'⟩ := X.bind_some h
      clear h
      obtain ⟨c, g2, e0, hlen, g3, g4⟩ := X.rdc_some g1
      obtain ⟨L2, u, hlive⟩ := r.obj i _ g2
      rw [hL] at u
      cases u
      obtain ⟨e, rfl⟩ := X.pure_some h'
      dsimp only at e
      rw [e, e0]
      rw [e0] at hlen
      obtain ⟨l', e1, e2⟩ := run_cells (P := P) hlive hlen
      exact ⟨g3, g4, l', by simpa [Builtin.firstCells] using e1, e2⟩
  · split at h
    · obtain ⟨rfl, rfl⟩ := X.pure_some h
      refine ⟨rfl, rfl, [], ?_, .nil⟩
      cases hx <;> simp [Builtin.firstCells, loadCells, loadCellsFrom]
    · cases h
  · rename_i s1
    split at h
    case h_2 => cases h
    rw [fL_eq] at h
    obtain ⟨rfl, rfl⟩ := X.pure_some h
    cases hx
    refine ⟨rfl, rfl, (s1.data.toList.take n).map byteV, ?_, bytesV_rel _⟩
    have h1 : (s1.extract 0 n).data.toList = s1.data.toList.take n := by simp
    have : ((s1.extract 0 n).data.map fun b => Value.int .u8 b.toNat) = ⟨(s1.data.toList.take n).map byteV⟩ := by
      apply Array.ext'
      rw [Array.toList_map, h1]
      rfl
    simp only [Builtin.firstCells, Sem.run_pure, this]
  · cases h

theorem xfirst_len {size n : Nat} {x x' : Value} {s s' : St} {l : List Value} (hx : VRel ρ x x') (h : (xfirst size n x).run s = some (l, s')) (hn : lenV x = some n) : l.length = n * size := by
  unfold xfirst at h
  split at h
  · rw [fN_eq] at h
    obtain ⟨⟨l0, tt, f0, f1, lo⟩, s1, g1, h'⟩ := X.bind_some h
    clear h
    obtain ⟨c, _, _, hlen, _⟩ := X.rdc_some g1
    obtain ⟨e, rfl⟩ := X.pure_some h'
    rw [e]
    exact hlen
  · split at h
    · obtain ⟨rfl, rfl⟩ := X.pure_some h; simp
    · cases h
  · rename_i s1
    split at h
    case h_2 => cases h
    case h_1 hb =>
      rw [fL_eq] at h
      obtain ⟨rfl, rfl⟩ := X.pure_some h
      simp only [lenV, Option.some.injEq] at hn
      have hs := Nat.eq_of_beq_eq_true hb
      subst hs
      rw [bytesV_eq, List.length_map, List.length_take, hn]
      omega
  · cases h

def notInt : TypeDesc → Bool
  | .int _ => false
  | _ => true

def xgrow (N0 : Nat) (c : List Value) (e f0 f1 size need : Nat) : X Value := fL c fun c => (X.new (.cells c e f0 f1 (some size))).bind fun i => match Nat.ble N0 i with
  | true => X.pure (.slice (some ⟨i, 0, none⟩) need need)
  | false => X.fail

/-- A row's last offspring is given up, with all that came of it. -/
def xkill : Nat → Nat → X Unit
  | 0, _ => X.fail
  | k + 1, i => (X.rd i).bind fun o => match o.kid with
    | some j => (xkill k j).bind fun _ => X.wrt i .dead
    | none => X.wrt i .dead
theorem xkill_ok : ∀ {k i : Nat} {s s' : St}, (xkill k i).run s = some ((), s') → s'.h.get i = some .dead ∧ (∀ x, s'.h.get x = s.h.get x ∨ s'.h.get x = some .dead) ∧ s'.nx = s.nx ∧
    ∀ {N0 b0 : Nat} {w0 : World} {ρ : Ren} {w : World}, Rel N0 b0 w0 ρ s.h w → Rel N0 b0 w0 ρ s'.h w := by
  intro k
  induction k with
  | zero => intro i s s' h; cases h
  | succ k ih =>
    intro i s s' h
    obtain ⟨o, s1, h1, h⟩ := X.bind_some h
    obtain ⟨e1, e2, e3⟩ := X.rd_some h1
    have fin : ∀ {s2 : St}, (X.wrt i .dead).run s2 = some ((), s') → (∀ x, s2.h.get x = s.h.get x ∨ s2.h.get x = some .dead) → s2.nx = s.nx →
        (∀ k, o.kid = some k → s2.h.get k = some .dead) → (∀ {N0 b0 : Nat} {w0 : World} {ρ : Ren} {w : World}, Rel N0 b0 w0 ρ s.h w → Rel N0 b0 w0 ρ s2.h w) →
        s'.h.get i = some .dead ∧ (∀ x, s'.h.get x = s.h.get x ∨ s'.h.get x = some .dead) ∧ s'.nx = s.nx ∧ ∀ {N0 b0 : Nat} {w0 : World} {ρ : Ren} {w : World}, Rel N0 b0 w0 ρ s.h w → Rel N0 b0 w0 ρ s'.h w := by
      intro s2 h2 hx hn hk hr
      obtain ⟨⟨o2, f0⟩, f1, f2⟩ := X.wrt_some h2
      refine ⟨by rw [f1, T.get_set, if_pos rfl], fun x => ?_, f2.trans hn, fun r => ?_⟩
      · rw [f1, T.get_set]
        split
        · exact .inr rfl
        · exact hx x
      · rw [f1]
        refine (hr r).kill f0 fun k hk' => .inr ?_
        rcases hx i with e | e
        · rw [f0, e1] at e; cases e; exact hk k hk'
        · rw [f0] at e; cases e; cases hk'
    split at h
    · rename_i j hj
      obtain ⟨_, s2, h2, h⟩ := X.bind_some h
      obtain ⟨g1, g2, g3, g4⟩ := ih h2
      refine fin h (fun x => e2 ▸ g2 x) (g3.trans e3) (fun k hk => ?_) fun r => g4 (e2 ▸ r)
      rw [hj] at hk; cases hk; exact g1
    · rename_i hj
      exact fin h (fun x => .inl (by rw [e2])) e3 (fun k hk => by rw [hj] at hk; cases hk) fun r => e2 ▸ r
def xkillOf (o : AObj) : X Unit := match o.kid with
  | some j => xkill 64 j
  | none => X.pure ()
theorem nxt_some {q : Nat} {s s' : St} (h : X.nxt.run s = some (q, s')) : q = s.nx ∧ s' = s := by cases h; exact ⟨rfl, rfl⟩
theorem xkillOf_ok {o : AObj} {s s' : St} (h : (xkillOf o).run s = some ((), s')) : (∀ k, o.kid = some k → s'.h.get k = some .dead) ∧ (∀ x, s'.h.get x = s.h.get x ∨ s'.h.get x = some .dead) ∧ s'.nx = s.nx ∧
    ∀ {N0 b0 : Nat} {w0 : World} {ρ : Ren} {w : World}, Rel N0 b0 w0 ρ s.h w → Rel N0 b0 w0 ρ s'.h w := by
  unfold xkillOf at h
  split at h
  · rename_i j hj
    obtain ⟨g1, g2, g3, g4⟩ := xkill_ok h
    exact ⟨fun k hk => by rw [hj] at hk; cases hk; exact g1, g2, g3, g4⟩
  · rename_i hj
    obtain ⟨_, rfl⟩ := X.pure_some h
    exact ⟨fun k hk => (by rw [hj] at hk; cases hk), fun _ => .inl rfl, rfl, id⟩
def keepB (P : Program) (e : TypeId) : Bool := match P.underlying e with
  | some (.int .i64) => true
  | _ => false
def keepO (m : Nat) : AObj → Bool
  | .cells c _ _ f1 _ => Nat.beq c.length m && Nat.beq f1 0
  | _ => false
/-- Appending to a row that is only read from now on. -/
def xkeep (N0 i size need e : Nat) (o : AObj) (new : List Value) : X Value := (xkillOf o).bind fun _ => X.nxt.bind fun q => (X.rd i).bind fun o => match o with
  | .cells c t _ f1 (some k) => match Nat.beq f1 0 && Nat.beq k size && Nat.beq t e && Nat.ble N0 i && Nat.ble N0 q with
    | true => fN (big + 1 + q) fun f => (X.wrt i (.cells c t f 0 (some k))).bind fun _ => xgrow N0 (c ++ new) e big 0 size need
    | false => X.fail
  | _ => X.fail
/-- Appending to a row that is given up. -/
def xmove (N0 i size need off m e t f0 f1 k : Nat) (old new : List Value) : X Value := match Nat.beq k size && Nat.ble N0 i && Nat.ble f1 (off + m) && Nat.beq t e && Nat.ble f0 1048576 with
  | true => (X.wrt i .dead).bind fun _ => xgrow N0 (old ++ new) e (f0 - off) (f1 - off) size need
  | false => X.fail

def xappend (P : Program) (N0 : Nat) (st xt : TypeId) (s x : Value) : X Value :=
  match P.underlying st, (P.underlying xt).map notInt with
  | some (.slice e), some true => match P.info? e with
    | some I => match I.zero with
      | some z => match Nat.beq (cellsOf z).length I.size && plainL (cellsOf z), s, lenV x with
        | true, .slice base len cap, some n => (xfirst I.size n x).bind fun new => match oneL new with
          | true => fN (len + n) fun need => match Nat.ble need cap with
            | true => match base with
              | some ⟨i, off, none⟩ => (X.rdc i off 0).bind fun p => match p with
                | (_, _, f0, f1, _) => fN (off + len * I.size) fun o =>
                  match Nat.ble N0 i && (Nat.ble f1 o || Nat.ble (o + new.length) f0) && Nat.ble f0 1048576 with
                  | true => (X.wrc i o new).bind fun _ => X.pure (.slice base need cap)
                  | false => X.fail
              | none => match cap with
                | 0 => X.pure (.slice none 0 0)
                | _ => X.fail
              | _ => X.fail
            | false => match Nat.ble need 1048576 && Nat.ble I.bytes 1048576 with
              | true => match base with
                | none => match cap with
                  | 0 => xgrow N0 new e 0 0 I.size need
                  | _ => X.fail
                | some ⟨i, off, none⟩ => (X.rdc i off (len * I.size)).bind fun p => match p with
                  | (old, t, f0, f1, lo) => match lo with
                    | none => xgrow N0 (old ++ new) e 0 0 I.size need
                    | some k => match keepB P e with
                      | true => (X.rd i).bind fun o => match keepO (len * I.size) o && Nat.beq off 0 with
                        | true => xkeep N0 i I.size need e o new
                        | false => xmove N0 i I.size need off (len * I.size) e t f0 f1 k old new
                      | false => xmove N0 i I.size need off (len * I.size) e t f0 f1 k old new
                | _ => X.fail
              | false => X.fail
          | false => X.fail
        | _, _, _ => X.fail
      | none => X.fail
    | none => X.fail
  | _, _ => X.fail

theorem growBy_le (need : Nat) : ∀ (k c : Nat), c ≤ need + (need + 768) / 4 → Builtin.growBy need k c ≤ need + (need + 768) / 4 := by
  intro k
  induction k with
  | zero => intro c h; exact h
  | succ k ih =>
    intro c h
    unfold Builtin.growBy
    split
    · exact h
    · exact ih _ (by omega)
theorem nextcap_le {need cap : Nat} (h : cap < need) : Builtin.nextslicecap need cap ≤ 2 * need + 512 := by
  unfold Builtin.nextslicecap
  split
  · omega
  · split
    · omega
    · have := growBy_le need 4 cap (by omega)
      omega
theorem zeroCells_length (z : Array Value) (n : Nat) : (Builtin.zeroCells z n).toList.length = n * z.size := by simp [Builtin.zeroCells]
theorem lenOf_run {x x' : Value} {n : Nat} (hx : VRel ρ x x') (h : lenV x = some n) : (Builtin.lenOf x').run P w = .ok n w := by
  cases hx <;> simp [lenV] at h
  · subst h; rename_i s; simp [Builtin.lenOf]
  all_goals subst h; simp [Builtin.lenOf]

/-- A longer row in a new block, on both sides. -/
theorem xgrow_new {c c' : List Value} {e f0 f1 size need newCap : Nat} {v : Value} {s s' : St} {rest : List Value} (r : Rel N0 b0 w0 ρ s.h w) (hc : VRels ρ c c') (h : (xgrow N0 c e f0 f1 size need).run s = some (v, s'))
    (hcap : need ≤ newCap) (hr : c'.length + rest.length = newCap * size) :
    ∃ ρ', ρ.le ρ' ∧ Rel N0 b0 w0 ρ' s'.h { w with heap := w.heap.push (.cells ⟨c' ++ rest⟩ e) } ∧ VRel ρ' v (.slice (some ⟨w.heap.size, 0, none⟩) need newCap) := by
  unfold xgrow at h
  rw [fL_eq] at h
  obtain ⟨j, s1, h1, h⟩ := X.bind_some h
  obtain ⟨rfl, h2, h3, _⟩ := X.new_some h1
  split at h
  case h_2 => cases h
  case h_1 hn =>
    have hn := Nat.le_of_ble_eq_true hn
    obtain ⟨rfl, rfl⟩ := X.pure_some h
    have hle : ρ.le (ρ.put s.nx ⟨w.heap.size, 0, newCap * size, some size⟩) := Ren.le_put (r.new _ hn h2)
    refine ⟨ρ.put s.nx ⟨w.heap.size, 0, newCap * size, some size⟩, hle, ?_, ?_⟩
    · rw [h3]
      refine r.push hn h2 _ _ _ rfl ⟨rfl, ⟨c' ++ rest⟩, e, (0, 0), by simp, rfl, by simpa using hr, fun x => (by cases x), ?_, ?_, fun j h1 h2 => by dsimp only at h2; omega⟩
      · have := hc.length
        show 0 + c.length ≤ newCap * size
        omega
      · have : ((c' ++ rest).drop 0).take c.length = c' := by rw [← hc.length]; simp
        rw [show (⟨c' ++ rest⟩ : Array Value).toList = c' ++ rest from rfl, this]
        exact hc.mono hle
    · have := VRel.slice (ρ := ρ.put s.nx ⟨w.heap.size, 0, newCap * size, some size⟩) (i := s.nx) 0 need (cap := need) (cap' := newCap) Ren.put_self (.inr ⟨size, rfl, hcap, by dsimp only; omega⟩)
      simpa using this

/-- A text's bytes in a new row. -/
def xbytes (P : Program) (N0 : Nat) (src dst : TypeId) (x : Value) : X Value := match P.underlying src, P.underlying dst, x with
  | some .string, some (.slice e), .string s => match P.underlying e with
    | some (.int .u8) => xgrow N0 (bytesV s.data.toList) e 0 0 1 s.data.toList.length
    | _ => X.fail
  | _, _, _ => X.fail
theorem xgrow_new' {c c' : List Value} {e size need newCap : Nat} {v : Value} {s s' : St} {rest : List Value} {fr : Nat × Nat} (r : Rel N0 b0 w0 ρ s.h w) (hc : VRels ρ c c') (h : (xgrow N0 c e 0 0 size need).run s = some (v, s'))
    (hcap : need ≤ newCap) (hr : c'.length + rest.length = newCap * size) (hfr : newCap * size ≤ fr.1) :
    ∃ ρ', ρ.le ρ' ∧ Rel N0 b0 w0 ρ' s'.h { w with heap := w.heap.push (.cells ⟨c' ++ rest⟩ e fr) } ∧ VRel ρ' v (.slice (some ⟨w.heap.size, 0, none⟩) need newCap) := by
  unfold xgrow at h
  rw [fL_eq] at h
  obtain ⟨j, s1, h1, h⟩ := X.bind_some h
  obtain ⟨rfl, h2, h3, _⟩ := X.new_some h1
  split at h
  case h_2 => cases h
  case h_1 hn =>
    have hn := Nat.le_of_ble_eq_true hn
    obtain ⟨rfl, rfl⟩ := X.pure_some h
    have hle : ρ.le (ρ.put s.nx ⟨w.heap.size, 0, newCap * size, some size⟩) := Ren.le_put (r.new _ hn h2)
    refine ⟨ρ.put s.nx ⟨w.heap.size, 0, newCap * size, some size⟩, hle, ?_, ?_⟩
    · rw [h3]
      refine r.push hn h2 _ _ _ rfl ⟨rfl, ⟨c' ++ rest⟩, e, fr, by simp, rfl, by simpa using hr, fun x => (by cases x), ?_, ?_, fun j h1 h2 _ h4 => by dsimp only at h4; omega⟩
      · have := hc.length
        show 0 + c.length ≤ newCap * size
        omega
      · have : ((c' ++ rest).drop 0).take c.length = c' := by rw [← hc.length]; simp
        rw [show (⟨c' ++ rest⟩ : Array Value).toList = c' ++ rest from rfl, this]
        exact hc.mono hle
    · have := VRel.slice (ρ := ρ.put s.nx ⟨w.heap.size, 0, newCap * size, some size⟩) (i := s.nx) 0 need (cap := need) (cap' := newCap) Ren.put_self (.inr ⟨size, rfl, hcap, by dsimp only; omega⟩)
      simpa using this
theorem xbytes_ok {src dst : TypeId} {x x' v : Value} {s s' : St} (r : Rel N0 b0 w0 ρ s.h w) (hx : VRel ρ x x') (h : (xbytes P N0 src dst x).run s = some (v, s')) :
    Good N0 b0 w0 ρ s' v ((convert src dst x').run P w) := by
  unfold xbytes at h
  split at h
  case h_2 => cases h
  case h_1 e b hs hd =>
    split at h
    case h_2 => cases h
    case h_1 he =>
      cases hx
      have hsz : b.data.toList.length = b.size := Array.length_toList
      have rd : Rel N0 b0 w0 ρ s.h w.drew := r.same (fun _ => rfl) rfl rfl rfl
      have hle : b.size ≤ Question.cut (.appendCap b.size 0 e) (w.tape w.drawn (.appendCap b.size 0 e)) := Nat.le_add_right _ _
      generalize hcap : Question.cut (.appendCap b.size 0 e) (w.tape w.drawn (.appendCap b.size 0 e)) = cap at hle
      have harr : (b.data.map fun c => Value.int .u8 c.toNat) ++ Array.replicate (cap - b.size) (.int .u8 0) = ⟨b.data.toList.map byteV ++ List.replicate (cap - b.size) (.int .u8 0)⟩ := by
        apply Array.ext'
        simp
        intro a _
        rfl
      have hlen : (b.data.toList.map byteV).length + (List.replicate (cap - b.size) (Value.int .u8 0)).length = cap * 1 := by
        rw [List.length_map, hsz, List.length_replicate]; omega
      rw [hsz] at h
      obtain ⟨ρ', p1, p2, p3⟩ := xgrow_new' (rest := List.replicate (cap - b.size) (.int .u8 0)) (fr := (cap, cap + 1)) rd (bytesV_rel b.data.toList) h hle hlen (by simp)
      refine ⟨ρ', _, _, ?_, p1, p2, p3⟩
      have hn : (⟨b.data.toList.map byteV ++ List.replicate (cap - b.size) (.int .u8 0)⟩ : Array Value).size = cap := by simp at hlen ⊢; omega
      have hfz : ∀ (H : Array Obj) (C : Array Value), (World.freeze { w.drew with heap := H.push (.cells C e) } ⟨H.size, C.size, none⟩ 1) = { w.drew with heap := H.push (.cells C e (C.size, C.size + 1)) } := fun H C => by
        simp only [World.freeze, Nat.one_ne_zero, if_false]
        congr 1
        apply Array.ext_getElem?
        intro k
        rw [Array.getElem?_modify]
        by_cases hk : H.size = k
        · subst hk; simp
        · rw [if_neg hk]
          simp only [Array.getElem?_push, Ne.symm hk, if_false]
      have hz2 := hfz w.drew.heap ⟨b.data.toList.map byteV ++ List.replicate (cap - b.size) (.int .u8 0)⟩
      rw [hn] at hz2
      simp only [convert, Sem.run_bind, run_underlying hs, run_underlying hd, run_underlying he, Result.andThen_ok, Conv.stringToBytes, run_choose, Question.forced, Bool.false_eq_true, if_false, World.drew_eq, hcap, harr, run_newRow, markStringish, run_shape, Sem.run_pure]
      have hsh : World.shape? { w.drew with heap := w.drew.heap.push (.cells ⟨b.data.toList.map byteV ++ List.replicate (cap - b.size) (.int .u8 0)⟩ e) } w.drew.heap.size = some (e, cap) := by
        simp only [World.shape?, Array.getElem?_push_size]
        rw [hn]
      simp only [hsh, run_freeze, hz2]
      rfl

theorem heap_put_same {b : Nat} {o : Obj} (h : w.heap[b]? = some o) : w.heap.setIfInBounds b o = w.heap := by
  apply Array.ext_getElem?
  intro k
  rw [Array.getElem?_setIfInBounds]
  by_cases hk : b = k
  · subst hk; simp [(Array.getElem?_eq_some_iff.1 h).1, (Array.getElem?_eq_some_iff.1 h).2]
  · simp [hk]

set_option maxHeartbeats 4000000 in
theorem xappend_ok {st xt ty : TypeId} {x x' y y' v : Value} {s s' : St} (r : Rel N0 b0 w0 ρ s.h w) (hx : VRel ρ x x') (hy : VRel ρ y y') (h : (xappend P N0 st xt x y).run s = some (v, s')) :
    Good N0 b0 w0 ρ s' v ((Builtin.append_ #[st, xt] ty #[x', y']).run P w) := by
  unfold xappend at h
  split at h
  case h_2 => cases h
  case h_1 e hd hxt =>
    obtain ⟨dx, hdx, hni⟩ := Option.map_eq_some_iff.1 hxt
    split at h
    case h_2 => cases h
    case h_1 I hI =>
      split at h
      case h_2 => cases h
      case h_1 z hz =>
        split at h
        case h_2 => cases h
        case h_1 base len cap n hzz hn =>
          simp only [Bool.and_eq_true] at hzz
          obtain ⟨new, s1, g1, h'⟩ := X.bind_some h
          clear h
          obtain ⟨g2, g3, new', g4, g5⟩ := xfirst_ok (P := P) r hy g1 (fun l hl => by rw [hn] at hl; cases hl; exact Nat.le_refl _)
          split at h'
          case h_2 => cases h'
          case h_1 hone =>
            rw [fN_eq] at h'
            have hlen := lenOf_run (P := P) (w := w) hy hn
            have hzeros : (match dx with | .int _ => true | _ => false) = false := by cases dx <;> first | rfl | cases hni
            have hzl : z.cells.size = I.size := by rw [← Nat.eq_of_beq_eq_true hzz.1, ← cellsOf_eq]; simp
            -- what the real append does
            have hgo : ∀ base' cap', x' = .slice base' len cap' → (Builtin.append_ #[st, xt] ty #[x', y']).run P w =
                (if len + n ≤ cap' then (match base' with
                    | some a => ((storeCells (a.add (len * I.size)) new').run P w).andThen fun _ w => .ok (.slice base' (len + n) cap') w
                    | none => .ok (.slice base' (len + n) cap') w)
                  else (do
                    if ((len + n : Nat) : Int) > IntKind.i64.max ∧ (False ∨ I.bytes = 0) then runtimePanic (.error "growslice: len out of range")
                    if Builtin.nextslicecap (len + n) cap' * I.bytes > 2 ^ 48 then (do
                      if !(← Builtin.mayShare I.size len n base' y') then mark .noRoom
                      unsupported (.resourceLimit "append: a slice or a string whose bytes no memory bears"))
                    let newCap ← choose (.appendCap (len + n) cap' e)
                    askRoom (newCap * I.bytes)
                    let old ← Builtin.firstCells I.size len x'
                    let new ← Builtin.firstCells I.size n y'
                    let rest := Builtin.zeroCells z.cells (newCap - (len + n))
                    pure (.slice (some (← newRow e (old ++ new ++ rest))) (len + n) newCap) : Sem Value).run P w) := fun base' cap' ex => by
              subst ex
              have hm : (match dx with | .int _ => (pure true : Sem Bool) | _ => pure false) = pure false := by cases dx <;> first | rfl | cases hni
              simp only [Builtin.append_, List.getElem?_toArray, List.getElem?_cons_zero, List.getElem?_cons_succ, Sem.run_bind, run_underlying hd, Result.andThen_ok, run_sizeOf' hI, run_underlying hdx, Sem.run_pure, hlen, typeInfo, run_program, hI]
              cases dx <;> first | cases hni | skip
              all_goals
                simp only [Bool.false_eq_true, if_false, hlen, Result.andThen_ok, Bool.not_false, if_true, Sem.run_ite, Sem.run_bind, g4]
                split
                · cases base' <;> simp [g4]
                · simp [run_zeroValue' hI hz, typeInfo, hI]
            split at h'
            · rename_i hcap
              have hcap := Nat.le_of_ble_eq_true hcap
              split at h'
              · rename_i i off
                cases hx with
                | slice _ _ hL hok =>
                  rename_i L cap'
                  rw [hgo _ cap' rfl, if_pos (Nat.le_trans hcap hok.le)]
                  obtain ⟨⟨l0, t, f0, f1, lo⟩, s2, k1, h⟩ := X.bind_some h'
                  clear h'
                  obtain ⟨c, k2, _, _, k3, _⟩ := X.rdc_some k1
                  dsimp only at h
                  rw [fN_eq] at h
                  split at h
                  case h_2 => cases h
                  case h_1 hc =>
                    simp only [Bool.and_eq_true, Bool.or_eq_true] at hc
                    have c1 := Nat.le_of_ble_eq_true hc.1.1
                    have c3 : f1 ≤ off + len * I.size ∨ off + len * I.size + new.length ≤ f0 := hc.1.2.imp Nat.le_of_ble_eq_true Nat.le_of_ble_eq_true
                    obtain ⟨_, s3, k4, h'⟩ := X.bind_some h
                    clear h
                    obtain ⟨rfl, rfl⟩ := X.pure_some h'
                    obtain ⟨c', t', f0', f1', lo', k5, hle, k6, _⟩ := X.wrc_some k4
                    rw [k3, k2] at k5
                    cases k5
                    rw [g2] at k2
                    obtain ⟨w', e3, r'⟩ := Rel.wrc (P := P) r k2 hL c1 hle (Nat.le_of_ble_eq_true hc.2) c3 g5 hone
                    have ha : (⟨L.blk, L.sh + off, none⟩ : Addr).add (len * I.size) = ⟨L.blk, L.sh + (off + len * I.size), none⟩ := by rw [add_none, Nat.add_assoc]
                    simp only [ha, e3, Result.andThen_ok]
                    refine ⟨ρ, w', _, rfl, Ren.le_refl _, ?_, .slice _ _ hL hok⟩
                    rw [k6, k3, g2]
                    exact r'
              · split at h'
                · obtain ⟨rfl, rfl⟩ := X.pure_some h'
                  cases hx
                  rw [hgo _ 0 rfl, if_pos hcap]
                  have : 0 + n = 0 := by omega
                  rw [this]
                  exact Good.same' r g2 .nils
                · cases h'
              · cases h'
            · rename_i hcap
              have hcap : ¬ (len + n ≤ cap) := fun e => by rw [Nat.ble_eq_true_of_le e] at hcap; cases hcap
              split at h'
              case h_2 => cases h'
              case h_1 hsm =>
                simp only [Bool.and_eq_true] at hsm
                have hsm1 := Nat.le_of_ble_eq_true hsm.1
                have hsm2 := Nat.le_of_ble_eq_true hsm.2
                -- the real growth
                have grow : ∀ base' cap' old' new2, x' = .slice base' len cap' → ¬ (len + n ≤ cap') → (Builtin.firstCells I.size len x').run P w.drew = .ok ⟨old'⟩ w.drew → (Builtin.firstCells I.size n y').run P w.drew = .ok ⟨new2⟩ w.drew →
                    ∃ newCap, len + n ≤ newCap ∧ (Builtin.append_ #[st, xt] ty #[x', y']).run P w = .ok (.slice (some ⟨w.heap.size, 0, none⟩) (len + n) newCap)
                      { w.drew with heap := w.heap.push (.cells ⟨old' ++ new2 ++ (Builtin.zeroCells z.cells (newCap - (len + n))).toList⟩ e) } := fun base' cap' old' new2 ex hlt e1 e2 => by
                  have hnc := nextcap_le (need := len + n) (cap := cap') (by omega)
                  have hb : ¬ (Builtin.nextslicecap (len + n) cap' * I.bytes > 2 ^ 48) := by
                    have h1 : Builtin.nextslicecap (len + n) cap' ≤ 2 * 1048576 + 512 := by omega
                    have := Nat.mul_le_mul h1 hsm2
                    omega
                  have hz : ¬ (((len + n : Nat) : Int) > IntKind.i64.max ∧ (False ∨ I.bytes = 0)) := by
                    have : IntKind.i64.max = 9223372036854775807 := rfl
                    rw [this]; omega
                  refine ⟨Question.cut (.appendCap (len + n) cap' e) (w.tape w.drawn (.appendCap (len + n) cap' e)), Nat.le_add_right _ _, ?_⟩
                  rw [hgo _ cap' ex, if_neg hlt]
                  simp only [hz, hb, if_false, Sem.run_bind, Sem.run_pure, Result.andThen_ok, run_choose, Question.forced, Bool.false_eq_true, World.drew_eq, run_askRoom, e1, e2, run_newRow]
                  congr 3
                  simp
                have hrest : ∀ (old' new2 : List Value) (newCap : Nat), old'.length = len * I.size → new2.length = n * I.size → len + n ≤ newCap →
                    (old' ++ new2).length + (Builtin.zeroCells z.cells (newCap - (len + n))).toList.length = newCap * I.size := fun old' new2 newCap l1 l2 l3 => by
                  rw [zeroCells_length, List.length_append, l1, l2, hzl, Nat.sub_mul, ← Nat.add_mul]
                  have := Nat.mul_le_mul_right I.size l3
                  omega
                have rd : Rel N0 b0 w0 ρ s.h w.drew := r.same (fun _ => rfl) rfl rfl rfl
                obtain ⟨_, _, new2, g4d, g5d⟩ := xfirst_ok (P := P) rd hy g1 (fun l hl => by rw [hn] at hl; cases hl; exact Nat.le_refl _)
                have hnl : new2.length = n * I.size := by rw [g5d.length]; exact xfirst_len hy g1 hn
                split at h'
                · split at h'
                  case h_2 => cases h'
                  cases hx
                  obtain ⟨newCap, m1, m2⟩ := grow none 0 [] new2 rfl (by omega) (by simp [Builtin.firstCells]) g4d
                  rw [m2]
                  have rd1 : Rel N0 b0 w0 ρ s1.h w.drew := g2 ▸ rd
                  obtain ⟨ρ', p1, p2, p3⟩ := xgrow_new (rest := (Builtin.zeroCells z.cells (newCap - (0 + n))).toList) rd1 g5d h' m1 (by simpa using hrest [] new2 newCap (by simp) hnl m1)
                  exact ⟨ρ', _, _, rfl, p1, p2, p3⟩
                · rename_i i off
                  cases hx with
                  | slice _ _ hL hok =>
                    rename_i L cap'
                    obtain ⟨⟨old, t, f0, f1, lo⟩, s2, k1, h⟩ := X.bind_some h'
                    clear h'
                    obtain ⟨c, k2, e0, hol, k3, k3n⟩ := X.rdc_some k1
                    rw [g2] at k2
                    obtain ⟨L2, u, hlive⟩ := r.obj i _ k2
                    rw [hL] at u
                    cases u
                    · dsimp only at h
                      subst e0
                      have hs2 : s2.h = s.h := k3.trans g2
                      have rd2 : Rel N0 b0 w0 ρ s2.h w.drew := hs2 ▸ rd
                      have hlived : LiveObj ρ L w.drew (.cells c t f0 f1 lo) := hlive.congr (Ren.le_refl _) fun _ => rfl
                      split at h
                      · have hcc : cap' = cap := by
                          rcases hok with e | ⟨k, e, _⟩
                          · exact e
                          · rw [hlive.1] at e; cases e
                        subst hcc
                        obtain ⟨old', e1, e2⟩ := run_cells (P := P) hlived hol
                        obtain ⟨newCap, m1, m2⟩ := grow _ _ old' new2 rfl hcap (by simpa [Builtin.firstCells] using e1) g4d
                        rw [m2]
                        obtain ⟨ρ', p1, p2, p3⟩ := xgrow_new (rest := (Builtin.zeroCells z.cells (newCap - (len + n))).toList) rd2 (e2.append g5d) h m1 (hrest old' new2 newCap (by rw [e2.length]; exact hol) hnl m1)
                        exact ⟨ρ', _, _, rfl, p1, p2, p3⟩
                      · rename_i k
                        have move : ∀ {s9 : St}, s9.h = s.h → (xmove N0 i I.size (len + n) off (len * I.size) e t f0 f1 k (List.take (len * I.size) (List.drop off c)) new).run s9 = some (v, s') →
                            Good N0 b0 w0 ρ s' v ((Builtin.append_ #[st, xt] ty #[.slice (some ⟨L.blk, L.sh + off, none⟩) len cap', y']).run P w) := by
                          clear h
                          intro s9 hs9 h
                          unfold xmove at h
                          split at h
                          case h_2 => cases h
                          case h_1 hc =>
                            simp only [Bool.and_eq_true] at hc
                            have c1 := Nat.eq_of_beq_eq_true hc.1.1.1.1
                            have c2 := Nat.le_of_ble_eq_true hc.1.1.1.2
                            have c3 := Nat.le_of_ble_eq_true hc.1.1.2
                            have c4 := Nat.eq_of_beq_eq_true hc.1.2
                            have c5 := not_seal (c := c) (t := t) (f1 := f1) (lo := some k) (Nat.le_of_ble_eq_true hc.2)
                            subst c1
                            subst c4
                            obtain ⟨_, s3, k4, h'⟩ := X.bind_some h
                            clear h
                            obtain ⟨_, k6, k7⟩ := X.wrt_some k4
                            obtain ⟨old', e1, e2⟩ := run_cells (P := P) hlived hol
                            by_cases hin : len + n ≤ cap'
                            · -- the real row has room
                              rw [hgo _ cap' rfl, if_pos hin]
                              have hroom : L.sh + off + cap' * I.size ≤ L.sz := by
                                rcases hok with e | ⟨k, e, _, e4⟩
                                · omega
                                · rw [hlive.1] at e; cases e; exact e4
                              obtain ⟨q0, cs, el, fr, q1, q2, q3, q4, q5, q6, q7⟩ := id hlive
                              have hnl' : new'.length = n * I.size := by rw [g5.length]; exact xfirst_len hy g1 hn
                              have hmul := Nat.mul_le_mul_right I.size hin
                              rw [Nat.add_mul] at hmul
                              have hrun := run_storeCells_put (P := P) (b := L.blk) (el := el) (fr := fr) (L.sh + (off + len * I.size)) new' 0 w cs q1 (oneL_rel g5 hone)
                                (by omega) (fun j j1 j2 ⟨j3, j4⟩ => by have := q7 j j3 j4 (by omega) (by omega); omega)
                              have ha : (⟨L.blk, L.sh + off, none⟩ : Addr).add (len * I.size) = ⟨L.blk, L.sh + (off + len * I.size), none⟩ := by rw [add_none, Nat.add_assoc]
                              simp only [ha, hrun, Result.andThen_ok, Nat.add_zero]
                              unfold xgrow at h'
                              rw [fL_eq] at h'
                              obtain ⟨j, s4, h1, h⟩ := X.bind_some h'
                              clear h'
                              obtain ⟨rfl, h2, h3, _⟩ := X.new_some h1
                              split at h
                              case h_2 => cases h
                              case h_1 hn0 =>
                                have hn0 := Nat.le_of_ble_eq_true hn0
                                obtain ⟨rfl, rfl⟩ := X.pure_some h
                                have hs3 : s3.h = s.h.set i .dead := by rw [k6, hs9]
                                have hfree : s.h.get s3.nx = none := by
                                  rw [hs3, T.get_set] at h2
                                  split at h2
                                  · cases h2
                                  · exact h2
                                have hle : ρ.le (ρ.put s3.nx ⟨L.blk, L.sh + off, L.sz, some I.size⟩) := Ren.le_put (r.new _ hn0 hfree)
                                refine ⟨ρ.put s3.nx ⟨L.blk, L.sh + off, L.sz, some I.size⟩, _, _, rfl, hle, ?_, ?_⟩
                                · rw [h3, hs3]
                                  have hsz : cs.size = L.sz := q3
                                  refine r.take c2 k2 rfl c5 hL hn0 hfree _ _ _ rfl ⟨rfl, ⟨cs.toList.take (L.sh + (off + len * I.size)) ++ new' ++ cs.toList.drop (L.sh + (off + len * I.size) + new'.length)⟩, el, fr, ?_, q2, ?_, fun x => (by cases x), ?_, ?_, ?_⟩
                                  · simp [(Array.getElem?_eq_some_iff.1 q1).1]
                                  · simp; omega
                                  · have := g5.length
                                    show L.sh + off + (List.take (len * I.size) (List.drop off c) ++ new).length ≤ L.sz
                                    rw [List.length_append, hol]
                                    omega
                                  · -- the cells
                                    have l1 : (List.take (len * I.size) (List.drop off c) ++ new).length = len * I.size + n * I.size := by
                                      rw [List.length_append, hol, ← g5.length, hnl']
                                    rw [l1]
                                    have hcl : off + len * I.size ≤ c.length ∨ len * I.size = 0 := by
                                      simp only [List.length_take, List.length_drop] at hol; omega
                                    have e3 : VRels ρ (List.take (len * I.size) (List.drop off c)) (List.take (len * I.size) (List.drop (L.sh + off) cs.toList)) := by
                                      have := (q6.drop off).take (len * I.size)
                                      have e4 : List.take (len * I.size) (List.drop off (List.take c.length (List.drop L.sh cs.toList))) = List.take (len * I.size) (List.drop (L.sh + off) cs.toList) := by
                                        rw [List.drop_take, List.drop_drop, List.take_take]
                                        rcases hcl with h | h
                                        · congr 1; omega
                                        · simp [h]
                                      rwa [e4] at this
                                    have e5 : List.take (len * I.size + n * I.size) (List.drop (L.sh + off) (cs.toList.take (L.sh + (off + len * I.size)) ++ new' ++ cs.toList.drop (L.sh + (off + len * I.size) + new'.length))) =
                                        List.take (len * I.size) (List.drop (L.sh + off) cs.toList) ++ new' := by
                                      have ht : (cs.toList.take (L.sh + (off + len * I.size))).length = L.sh + (off + len * I.size) := by simp; omega
                                      rw [List.append_assoc, List.drop_append_of_le_length (by rw [ht]; omega), List.drop_take]
                                      have h6 : (L.sh + (off + len * I.size) - (L.sh + off)) = len * I.size := by omega
                                      rw [h6, ← hnl', List.take_append]
                                      have h7 : (List.take (len * I.size) (List.drop (L.sh + off) cs.toList)).length = len * I.size := by simp; omega
                                      rw [h7, List.take_take, Nat.add_sub_cancel_left]
                                      have h8 : min (len * I.size + new'.length) (len * I.size) = len * I.size := by omega
                                      rw [h8]
                                      simp
                                    rw [e5]
                                    exact (e3.append g5).mono hle
                                  · intro j j1 j2 j3 j5
                                    have j4 : L.sh + off ≤ j := j3
                                    have := q7 j j1 j2 (by omega) j5
                                    show f0 - off ≤ j - (L.sh + off) ∧ j - (L.sh + off) < f1 - off
                                    omega
                                · have := VRel.slice (ρ := ρ.put s3.nx ⟨L.blk, L.sh + off, L.sz, some I.size⟩) (i := s3.nx) 0 (len + n) (cap := len + n) (cap' := cap') Ren.put_self (.inr ⟨I.size, rfl, hin, by dsimp only; omega⟩)
                                  simpa using this
                            · obtain ⟨newCap, m1, m2⟩ := grow _ _ old' new2 rfl hin (by simpa [Builtin.firstCells] using e1) g4d
                              rw [m2]
                              have rk : Rel N0 b0 w0 ρ s3.h w.drew := by
                                rw [k6, hs9]
                                exact rd.kill k2 fun x hx => by rw [AObj.seal_of_kid hx] at c5; cases c5
                              have e2' := e2
                              obtain ⟨ρ', p1, p2, p3⟩ := xgrow_new (rest := (Builtin.zeroCells z.cells (newCap - (len + n))).toList) rk (e2'.append g5d) h' m1 (hrest old' new2 newCap (by rw [e2.length]; exact hol) hnl m1)
                              exact ⟨ρ', _, _, rfl, p1, p2, p3⟩
                        split at h
                        case h_2 => exact move hs2 h
                        case h_1 =>
                          obtain ⟨o, s3, j1, h9⟩ := X.bind_some h
                          clear h
                          obtain ⟨j2, j3, j4⟩ := X.rd_some j1
                          rw [hs2, k2] at j2
                          cases j2
                          split at h9
                          case h_2 => exact move (j3.trans hs2) h9
                          case h_1 hko =>
                            simp only [keepO, Bool.and_eq_true] at hko
                            have z1 := Nat.eq_of_beq_eq_true hko.1.1
                            have z2 := Nat.eq_of_beq_eq_true hko.1.2
                            have z3 := Nat.eq_of_beq_eq_true hko.2
                            subst z2
                            subst z3
                            clear move
                            unfold xkeep at h9
                            obtain ⟨_, s4, j5, h10⟩ := X.bind_some h9
                            clear h9
                            obtain ⟨q1, q2, q3, q4⟩ := xkillOf_ok j5
                            obtain ⟨q, s5, j6, h8⟩ := X.bind_some h10
                            clear h10
                            have hq := nxt_some j6
                            obtain ⟨rfl, rfl⟩ := hq
                            obtain ⟨o5, s6, j7, h⟩ := X.bind_some h8
                            clear h8
                            obtain ⟨j8, j9, j10⟩ := X.rd_some j7
                            split at h
                            case h_2 => cases h
                            case h_1 c5 t5 f5 f15 k5 =>
                            split at h
                            case h_2 => cases h
                            case h_1 hc =>
                              have hi4 : s5.h.get i = some (.cells c t f0 0 (some k)) := by
                                rcases q2 i with e | e
                                · rw [e, j3, hs2, k2]
                                · rw [j8] at e; cases e
                              rw [hi4] at j8
                              cases j8
                              simp only [Bool.and_eq_true] at hc
                              have c1 := Nat.eq_of_beq_eq_true hc.1.1.1.2
                              have c2 := Nat.eq_of_beq_eq_true hc.1.1.2
                              have c3 := Nat.le_of_ble_eq_true hc.1.2
                              have c4 := Nat.le_of_ble_eq_true hc.2
                              subst c1
                              subst c2
                              rw [fN_eq] at h
                              obtain ⟨_, s7, j11, h'⟩ := X.bind_some h
                              clear h
                              obtain ⟨_, j12, j13⟩ := X.wrt_some j11
                              have hs4 : s3.h = s.h := j3.trans hs2
                              have r4 : ∀ {W : World}, Rel N0 b0 w0 ρ s.h W → Rel N0 b0 w0 ρ s7.h W := fun r => by
                                rw [j12, j9]
                                exact (q4 (hs4 ▸ r)).reseal hi4 fun k hk => .inr (q1 k hk)
                              have hi7 : s7.h.get i = some (.cells c t (big + 1 + s5.nx) 0 (some I.size)) := by rw [j12, T.get_set, if_pos rfl]
                              have hn7 : s7.nx = s5.nx := j13.trans j10
                              have hcl : List.take (len * I.size) (List.drop 0 c) = c := by rw [List.drop_zero, ← z1, List.take_length]
                              rw [hcl] at hol
                              obtain ⟨old', e1, e2⟩ := run_cells (P := P) hlived (by rw [hcl]; exact hol)
                              rw [hcl] at e2
                              by_cases hin : len + n ≤ cap'
                              · rw [hgo _ cap' rfl, if_pos hin]
                                have hroom : L.sh + cap' * I.size ≤ L.sz := by
                                  rcases hok with e | ⟨k, e, _, e4⟩
                                  · omega
                                  · rw [hlive.1] at e; cases e; simpa using e4
                                obtain ⟨q0, cs, el, fr, p1, p2, p3, p4, p5, p6, p7⟩ := id hlive
                                have hnl' : new'.length = n * I.size := by rw [g5.length]; exact xfirst_len hy g1 hn
                                have hmul := Nat.mul_le_mul_right I.size hin
                                rw [Nat.add_mul] at hmul
                                have hrun := run_storeCells_put (P := P) (b := L.blk) (el := el) (fr := fr) (L.sh + (0 + len * I.size)) new' 0 w cs p1 (oneL_rel g5 hone)
                                  (by omega) (fun j j1 j2 ⟨j3, j4⟩ => by have := p7 j j3 j4 (by omega) (by omega); omega)
                                have ha : (⟨L.blk, L.sh, none⟩ : Addr).add (len * I.size) = ⟨L.blk, L.sh + (0 + len * I.size), none⟩ := by rw [add_none, Nat.zero_add]
                                simp only [Nat.add_zero] at hrun
                                simp only [Nat.add_zero, ha, hrun, Result.andThen_ok]
                                unfold xgrow at h'
                                rw [fL_eq] at h'
                                obtain ⟨j, s8, h1, h⟩ := X.bind_some h'
                                clear h'
                                obtain ⟨rfl, h2, h3, _⟩ := X.new_some h1
                                split at h
                                case h_2 => cases h
                                case h_1 hn0 =>
                                  have hn0 := Nat.le_of_ble_eq_true hn0
                                  obtain ⟨rfl, rfl⟩ := X.pure_some h
                                  rw [hn7] at h2 h3 hn0 ⊢
                                  have hlN : L = ⟨L.blk, L.sh, L.sz, some I.size⟩ := by rw [← q0]
                                  have hle : ρ.le (ρ.put s5.nx L) := Ren.le_put ((r4 r).new _ hn0 h2)
                                  refine ⟨ρ.put s5.nx L, _, _, rfl, hle, ?_, ?_⟩
                                  · rw [h3]
                                    have hsz : cs.toList.length = L.sz := by rw [Array.length_toList]; exact p3
                                    refine (r4 r).graft c3 hi7 hL hn0 h2 (.cells ⟨cs.toList.take (L.sh + (0 + len * I.size)) ++ new' ++ cs.toList.drop (L.sh + (0 + len * I.size) + new'.length)⟩ el fr) _ rfl (by simp [AObj.len]) ?_ ?_
                                    · refine ⟨q0, ⟨cs.toList.take (L.sh + (0 + len * I.size)) ++ new' ++ cs.toList.drop (L.sh + (0 + len * I.size) + new'.length)⟩, el, fr, ?_, p2, ?_, fun x => (by cases x), ?_, ?_, ?_⟩
                                      · simp [(Array.getElem?_eq_some_iff.1 p1).1]
                                      · simp; omega
                                      · have := g5.length
                                        rw [List.length_append]
                                        omega
                                      · have l1 : (c ++ new).length = c.length + new'.length := by rw [List.length_append, g5.length]
                                        rw [l1]
                                        have e5 : List.take (c.length + new'.length) (List.drop L.sh (cs.toList.take (L.sh + (0 + len * I.size)) ++ new' ++ cs.toList.drop (L.sh + (0 + len * I.size) + new'.length))) =
                                            List.take c.length (List.drop L.sh cs.toList) ++ new' := by
                                          apply List.ext_getElem?
                                          intro x
                                          simp only [List.getElem?_take, List.getElem?_drop, List.getElem?_append, List.length_append, List.length_take, List.length_drop]
                                          repeat' split
                                          all_goals first | rfl | (exfalso; omega) | (congr 1; omega) | exact (List.getElem?_eq_none (by omega)).symm
                                        rw [e5]
                                        exact (p6.append g5).mono hle
                                      · intro j j1 j2 j3 j5
                                        have := p7 j j1 j2 j3 j5
                                        omega
                                    · intro M u m1 m2 m3 m4 hu
                                      cases u with
                                      | cells cu tu fu0 fu1 lou =>
                                        obtain ⟨u0, cs', el', fr', u1, u2, u3, u4, u5, u6, u7⟩ := hu
                                        rw [m1, p1] at u1
                                        cases u1
                                        have m3 : cu.length ≤ c.length := m3
                                        refine ⟨u0, ⟨cs.toList.take (L.sh + (0 + len * I.size)) ++ new' ++ cs.toList.drop (L.sh + (0 + len * I.size) + new'.length)⟩, el, fr, ?_, p2, ?_, u4, u5, ?_, u7⟩
                                        · simp [m1, (Array.getElem?_eq_some_iff.1 p1).1]
                                        · simp; omega
                                        · have e6 : List.take cu.length (List.drop M.sh (cs.toList.take (L.sh + (0 + len * I.size)) ++ new' ++ cs.toList.drop (L.sh + (0 + len * I.size) + new'.length))) = List.take cu.length (List.drop M.sh cs.toList) := by
                                            rw [m2]
                                            apply List.ext_getElem?
                                            intro x
                                            simp only [List.getElem?_take, List.getElem?_drop, List.getElem?_append, List.length_append, List.length_take, List.length_drop]
                                            repeat' split
                                            all_goals first | rfl | (exfalso; omega) | (congr 1; omega) | exact (List.getElem?_eq_none (by omega)).symm
                                          rw [e6]
                                          exact u6.mono hle
                                      | _ => cases m4
                                  · have := VRel.slice (ρ := ρ.put s5.nx L) (i := s5.nx) 0 (len + n) (cap := len + n) (cap' := cap') Ren.put_self (.inr ⟨I.size, q0, hin, by omega⟩)
                                    simpa using this
                              · obtain ⟨newCap, m1, m2⟩ := grow _ _ old' new2 rfl hin (by simpa [Builtin.firstCells] using e1) g4d
                                rw [m2]
                                obtain ⟨ρ', p1, p2, p3⟩ := xgrow_new (rest := (Builtin.zeroCells z.cells (newCap - (len + n))).toList) (r4 rd) (e2.append g5d) h' m1 (hrest old' new2 newCap (by rw [e2.length]; exact hol) hnl m1)
                                exact ⟨ρ', _, _, rfl, p1, p2, p3⟩
                · cases h'
end
end Go.Rx
