/- Copying, making, literals, maps, lengths. -/
import Derived.Test.YtpfjakcfjpgbmaaGreatDoorRxR
import Derived.MapKept
namespace Go.Rx
set_option linter.unusedVariables false
set_option linter.unusedSimpArgs false
noncomputable section
variable {P : Program} {N0 b0 : Nat} {w0 : World} {ρ : Ren} {w : World}

def xcopy (P : Program) (N0 : Nat) (st : TypeId) (s x : Value) : X Value := match P.underlying st with
  | some (.slice e) => match P.info? e, s, lenV x with
    | some I, .slice base dl cap, some n => fN (min n dl) fun n => (xfirst I.size n x).bind fun new => match base with
      | some ⟨i, off, none⟩ => (X.rdc i off 0).bind fun p => match p with
        | (_, _, f0, f1, _) => match oneL new && Nat.ble N0 i && (Nat.ble f1 off || Nat.ble (off + new.length) f0) && Nat.ble f0 1048576 with
          | true => (X.wrc i off new).bind fun _ => X.pure (.int .i64 (.ofNat n))
          | false => X.fail
      | none => match dl, n, cap with
        | 0, 0, 0 => X.pure (.int .i64 (.ofNat 0))
        | _, _, _ => X.fail
      | _ => X.fail
    | _, _, _ => X.fail
  | _ => X.fail
theorem xcopy_ok {st xt ty : TypeId} {x x' y y' v : Value} {s s' : St} (r : Rel N0 b0 w0 ρ s.h w) (hx : VRel ρ x x') (hy : VRel ρ y y') (h : (xcopy P N0 st x y).run s = some (v, s')) :
    Good N0 b0 w0 ρ s' v ((Builtin.copy_ #[st, xt] ty #[x', y']).run P w) := by
  unfold xcopy at h
  split at h
  case h_2 => cases h
  case h_1 e hd =>
    split at h
    case h_2 => cases h
    case h_1 I base dl cap n hI hn =>
      rw [fN_eq] at h
      obtain ⟨new, s1, g1, h'⟩ := X.bind_some h
      clear h
      obtain ⟨g2, g3, new', g4, g5⟩ := xfirst_ok (P := P) r hy g1 (fun l hl => by rw [hn] at hl; cases hl; exact Nat.min_le_left _ _)
      have hlen := lenOf_run (P := P) (w := w) hy hn
      have hmin : Nat.min n dl = min n dl := rfl
      split at h'
      · rename_i i off
        cases hx with
        | slice _ _ hL hok =>
          rename_i L cap'
          obtain ⟨⟨l0, t, f0, f1, lo⟩, s2, k1, h⟩ := X.bind_some h'
          clear h'
          obtain ⟨c, k2, _, _, k3, _⟩ := X.rdc_some k1
          dsimp only at h
          split at h
          case h_2 => cases h
          case h_1 hc =>
            simp only [Bool.and_eq_true, Bool.or_eq_true] at hc
            have c1 := Nat.le_of_ble_eq_true hc.1.1.2
            have c3 : f1 ≤ off ∨ off + new.length ≤ f0 := hc.1.2.imp Nat.le_of_ble_eq_true Nat.le_of_ble_eq_true
            obtain ⟨_, s3, k4, h'⟩ := X.bind_some h
            clear h
            obtain ⟨rfl, rfl⟩ := X.pure_some h'
            obtain ⟨c', t', f0', f1', lo', k5, hle, k6, _⟩ := X.wrc_some k4
            rw [k3, k2] at k5
            cases k5
            rw [g2] at k2
            obtain ⟨w', e3, r'⟩ := Rel.wrc (P := P) r k2 hL c1 hle (Nat.le_of_ble_eq_true hc.2) c3 g5 hc.1.1.1
            simp only [Builtin.copy_, List.getElem?_toArray, List.getElem?_cons_zero, List.getElem?_cons_succ, Sem.run_bind, run_underlying hd, Result.andThen_ok, run_sizeOf' hI, hlen, hmin, g4, e3, Sem.run_pure]
            refine ⟨ρ, w', _, rfl, Ren.le_refl _, ?_, .int ..⟩
            rw [k6, k3, g2]
            exact r'
      · split at h'
        · rename_i hmn
          · obtain ⟨rfl, rfl⟩ := X.pure_some h'
            cases hx
            simp only [Builtin.copy_, List.getElem?_toArray, List.getElem?_cons_zero, List.getElem?_cons_succ, Sem.run_bind, run_underlying hd, Result.andThen_ok, run_sizeOf' hI, hlen, hmin, g4, Sem.run_pure]
            rw [hmn]
            exact Good.same' r g2 (.int ..)
        · cases h'
      · cases h'

/-- Cells made zero again. -/
def repL (z : List Value) : Nat → List Value
  | 0 => []
  | n + 1 => z ++ repL z n
theorem repL_length (z : List Value) (n : Nat) : (repL z n).length = n * z.length := by
  induction n with
  | zero => simp [repL]
  | succ n ih => rw [repL, List.length_append, ih, Nat.succ_mul, Nat.add_comm]
theorem repL_get (z : List Value) : ∀ (n i : Nat), i < n * z.length → (repL z n)[i]? = z[i % z.length]? := by
  intro n
  induction n with
  | zero => intro i hi; simp at hi
  | succ n ih =>
    intro i hi
    rw [repL, List.getElem?_append]
    split
    · rename_i h
      rw [Nat.mod_eq_of_lt h]
    · rename_i h
      have hs : (n + 1) * z.length = n * z.length + z.length := Nat.succ_mul ..
      rw [ih (i - z.length) (by omega)]
      congr 1
      exact (Nat.mod_eq_sub_mod (by omega)).symm
theorem repL_zero (z : Array Value) (n : Nat) : (Builtin.zeroCells z n).toList = repL z.toList n := by
  apply List.ext_getElem?
  intro i
  by_cases hi : i < n * z.size
  · rw [repL_get _ _ _ (by simpa using hi)]
    have hz : 0 < z.size := by
      rcases Nat.eq_zero_or_pos z.size with h | h
      · rw [h] at hi; simp at hi
      · exact h
    have hm := Nat.mod_lt i hz
    simp [Builtin.zeroCells, hi, hm, getElem!_pos]
  · rw [List.getElem?_eq_none (by simp [Builtin.zeroCells]; omega), List.getElem?_eq_none (by rw [repL_length]; simpa using hi)]
theorem repL_plain {z : List Value} (h : plainL z = true) (n : Nat) : plainL (repL z n) = true := by
  have app : ∀ {a b : List Value}, plainL a = true → plainL b = true → plainL (a ++ b) = true := fun {a b} ha hb => by
    induction a with
    | nil => exact hb
    | cons v a ih => simp only [plainL, Bool.and_eq_true] at ha; simp only [List.cons_append, plainL, Bool.and_eq_true]; exact ⟨ha.1, ih ha.2⟩
  induction n with
  | zero => rfl
  | succ n ih => exact app h ih
def xclear (P : Program) (N0 : Nat) (st : TypeId) (x : Value) : X Value := match P.underlying st with
  | some (.slice e) => match x with
    | .slice (some ⟨i, off, none⟩) n _ => match n with
      | 0 => X.pure undef
      | n => match P.info? e with
        | some I => match I.zero with
          | some z => match Nat.beq (cellsOf z).length I.size && plainL (cellsOf z) && oneL (cellsOf z) with
            | true => fL (repL (cellsOf z) n) fun vs => (X.rdc i off 0).bind fun p => match p with
              | (_, _, f0, f1, _) => match oneL vs && Nat.ble N0 i && (Nat.ble f1 off || Nat.ble (off + vs.length) f0) && Nat.ble f0 1048576 with
                | true => (X.wrc i off vs).bind fun _ => X.pure undef
                | false => X.fail
            | false => X.fail
          | none => X.fail
        | none => X.fail
    | .slice none 0 _ => X.pure undef
    | _ => X.fail
  | _ => X.fail
theorem xclear_ok {st ty : TypeId} {x x' v : Value} {s s' : St} (r : Rel N0 b0 w0 ρ s.h w) (hx : VRel ρ x x') (h : (xclear P N0 st x).run s = some (v, s')) :
    Good N0 b0 w0 ρ s' v ((Builtin.clear_ #[st] ty #[x']).run P w) := by
  have hun : VRel ρ undef (.tuple #[]) := .tuple .nil
  unfold xclear at h
  split at h
  case h_2 => cases h
  case h_1 e hd =>
    split at h
    · rename_i i off n cap
      cases hx with
      | slice _ _ hL hok =>
        rename_i L cap'
        split at h
        · obtain ⟨rfl, rfl⟩ := X.pure_some h
          refine ⟨ρ, w, .tuple #[], ?_, Ren.le_refl _, r, hun⟩
          simp [Builtin.clear_, run_underlying hd]
        · rename_i hn0
          split at h
          case h_2 => cases h
          case h_1 I hI =>
            split at h
            case h_2 => cases h
            case h_1 z hz =>
              split at h
              case h_2 => cases h
              case h_1 hzz =>
                simp only [Bool.and_eq_true] at hzz
                rw [fL_eq] at h
                obtain ⟨⟨l0, t, f0, f1, lo⟩, s2, k1, h'⟩ := X.bind_some h
                clear h
                obtain ⟨c, k2, _, _, k3, _⟩ := X.rdc_some k1
                dsimp only at h'
                split at h'
                case h_2 => cases h'
                case h_1 hc =>
                  simp only [Bool.and_eq_true, Bool.or_eq_true] at hc
                  have c1 := Nat.le_of_ble_eq_true hc.1.1.2
                  have c3 := hc.1.2.imp Nat.le_of_ble_eq_true Nat.le_of_ble_eq_true
                  obtain ⟨_, s3, k4, h⟩ := X.bind_some h'
                  clear h'
                  obtain ⟨rfl, rfl⟩ := X.pure_some h
                  obtain ⟨c', t', f0', f1', lo', k5, hle, k6, _⟩ := X.wrc_some k4
                  rw [k3, k2] at k5
                  cases k5
                  obtain ⟨w', e3, r'⟩ := Rel.wrc (P := P) r k2 hL c1 hle (Nat.le_of_ble_eq_true hc.2) c3 (VRels.plain (repL_plain hzz.1.2 n)) hc.1.1.1
                  refine ⟨ρ, w', .tuple #[], ?_, Ren.le_refl _, by rw [k6, k3]; exact r', hun⟩
                  have hzc : (Builtin.zeroCells z.cells n).toList = repL (cellsOf z) n := by rw [repL_zero, cellsOf_eq]
                  simp only [Builtin.clear_, List.getElem?_toArray, List.getElem?_cons_zero, Sem.run_bind, run_underlying hd, Result.andThen_ok]
                  cases n with
                  | zero => exact absurd rfl hn0
                  | succ n => simp only [Sem.run_bind, run_zeroValue' hI hz, Result.andThen_ok, hzc, e3, Sem.run_pure]
    · obtain ⟨rfl, rfl⟩ := X.pure_some h
      refine ⟨ρ, w, .tuple #[], ?_, Ren.le_refl _, r, hun⟩
      cases hx <;> simp [Builtin.clear_, run_underlying hd]
    · cases h

/-! ### literals -/
def okFs (P : Program) : List Field → Bool
  | [] => true
  | f :: l => (P.info? f.type).isSome && okFs P l
theorem okFs_mem {l : List Field} (h : okFs P l = true) : ∀ f ∈ l, ∃ I, P.info? f.type = some I := by
  induction l with
  | nil => simp
  | cons f l ih =>
    simp only [okFs, Bool.and_eq_true] at h
    intro g hg
    rcases List.mem_cons.1 hg with rfl | hg
    · exact Option.isSome_iff_exists.1 h.1
    · exact ih h.2 g hg
def placeS (P : Program) (fs : List Field) (i : Nat) : Option (Nat × Nat) := match fs[i]? with
  | some f => match P.info? f.type with
    | some I => some (f.offset, I.size)
    | none => none
  | none => none
def xbuild (P : Program) (t : TypeId) (ps : List (Nat × Value)) : Option Value := match P.underlying t, P.info? t with
  | some d, some I => match I.zero with
    | some z => match plainL (cellsOf z), d with
      | true, .struct fs => match okFs P fs.toList with
        | true => match xfill (placeS P fs.toList) (cellsOf z) ps with
          | some c => some (.agg ⟨c⟩)
          | none => none
        | false => none
      | true, .array _ e => match P.info? e with
        | some J => match xfill (fun i => some (i * J.size, J.size)) (cellsOf z) ps with
          | some c => some (.agg ⟨c⟩)
          | none => none
        | none => none
      | _, _ => none
    | none => none
  | _, _ => none
theorem xbuild_ok {t : TypeId} {ps : List (Nat × Value)} {ps' : Array (Nat × Value)} {v : Value} (hp : Parts ρ ps ps'.toList) (h : xbuild P t ps = some v) : ∃ v', (Instr.build t ps').run P w = .ok v' w ∧ VRel ρ v v' := by
  unfold xbuild at h
  split at h
  case h_2 => cases h
  case h_1 d I hd hI =>
    split at h
    case h_2 => cases h
    case h_1 z hz =>
      have hzc : ∀ z : Value, z.cells = ⟨cellsOf z⟩ := fun z => by rw [← cellsOf_eq]
      split at h
      · rename_i fs hpl
        split at h
        case h_2 => cases h
        case h_1 hok =>
          split at h
          case h_2 => cases h
          case h_1 c hc =>
            cases h
            have hm : (fs.mapM fun f => (do pure (f.offset, ← sizeOf f.type) : Sem (Nat × Nat))).run P w = .ok (fs.map fun f => (f.offset, P.cellsOf f.type)) w := mapM_run _ fun f hf => by
              obtain ⟨J, hJ⟩ := okFs_mem hok f (by simpa using hf)
              simp [run_sizeOf' hJ, Program.cellsOf, hJ]
            have hpl' : ∀ i x, placeS P fs.toList i = some x → (fs.map fun f => (f.offset, P.cellsOf f.type))[i]? = some x := fun i x hx => by
              unfold placeS at hx
              split at hx
              case h_2 => cases hx
              case h_1 f hf =>
                split at hx
                case h_2 => cases hx
                case h_1 J hJ =>
                  cases hx
                  have hf' : fs[i]? = some f := by simpa using hf
                  simp [hf', Program.cellsOf, hJ]
            obtain ⟨c', e1, e2⟩ := xfill_ok (place' := fun i => (fs.map fun f => (f.offset, P.cellsOf f.type))[i]?) hpl' hp (VRels.plain hpl) hc
            refine ⟨.agg ⟨c'⟩, ?_, .agg e2⟩
            simp only [Instr.build, Sem.run_bind, run_zeroValue' hI hz, Result.andThen_ok, run_underlying hd, hm, hzc, e1, Sem.run_pure]
      · rename_i e hpl
        split at h
        case h_2 => cases h
        case h_1 J hJ =>
          split at h
          case h_2 => cases h
          case h_1 c hc =>
            cases h
            obtain ⟨c', e1, e2⟩ := xfill_ok (place' := fun i => some (i * J.size, J.size)) (fun _ _ h => h) hp (VRels.plain hpl) hc
            refine ⟨.agg ⟨c'⟩, ?_, .agg e2⟩
            simp only [Instr.build, Sem.run_bind, run_zeroValue' hI hz, Result.andThen_ok, run_underlying hd, run_sizeOf' hJ, hzc, e1, Sem.run_pure]
      · cases h

theorem map_range0 (f : Nat → Value) : (Array.range 0).map f = ⟨[]⟩ := by simp
/-- n times the cells of a zero value. -/
def rep (z : List Value) : Nat → List Value
  | 0 => []
  | n + 1 => z ++ rep z n
theorem rep_nil (n : Nat) : rep [] n = [] := by
  induction n with
  | zero => rfl
  | succ n ih => simpa [rep] using ih
theorem rep_plain {z : List Value} (h : plainL z = true) (n : Nat) : plainL (rep z n) = true := by
  have app : ∀ a b, plainL a = true → plainL b = true → plainL (a ++ b) = true := fun a b ha hb => by
    induction a with
    | nil => exact hb
    | cons x a ih => simp only [plainL, Bool.and_eq_true, List.cons_append] at ha ⊢; exact ⟨ha.1, ih ha.2⟩
  induction n with
  | zero => rfl
  | succ n ih => exact app _ _ h ih
theorem rep_eq (z : Array Value) (n : Nat) : (Array.range (n * z.size)).map (fun i => z[i % z.size]!) = ⟨rep z.toList n⟩ := by
  apply Array.ext'
  apply List.ext_getElem?
  intro i
  have key : ∀ n i, (rep z.toList n)[i]? = if i < n * z.size then some z[i % z.size]! else none := by
    intro n
    induction n with
    | zero => intro i; simp [rep]
    | succ n ih =>
      intro i
      have hz : z.toList.length = z.size := by simp
      simp only [rep, List.getElem?_append, hz]
      rw [Nat.add_mul, Nat.one_mul]
      split
      · rename_i hlt
        rw [if_pos (by omega), Nat.mod_eq_of_lt hlt]
        simp [hlt]
      · rename_i hge
        rw [ih]
        have : i - z.size < n * z.size ↔ i < n * z.size + z.size := by omega
        simp only [this]
        split
        · have : (i - z.size) % z.size = i % z.size := by
            conv => rhs; rw [show i = (i - z.size) + z.size from by omega]
            simp
          rw [this]
        · rfl
  rw [key]
  simp only [Array.toList_map, Array.toList_range, List.getElem?_map, List.getElem?_range']
  by_cases h : i < n * z.size <;> simp [h]
def xbuildSlice (P : Program) (N0 : Nat) (t : TypeId) (len : Nat) (ps : List (Nat × Value)) : X Value := match P.underlying t with
  | some (.slice e) => match P.info? e with
    | some J => match J.zero with
      | some z => match plainL (cellsOf z) && Nat.beq (cellsOf z).length J.size && Nat.blt 0 J.size && Nat.ble (len * J.size) 16777216 with
        | true => fL (rep (cellsOf z) len) fun z => match xfill (fun i => some (i * J.size, J.size)) z ps with
          | some c => (xnew N0 c e).bind fun i => X.pure (.slice (some ⟨i, 0, none⟩) len len)
          | none => X.fail
        | false => X.fail
      | none => X.fail
    | none => X.fail
  | _ => X.fail
theorem slice_new {ρ' : Ren} {i : Nat} {L : Loc} (hL : ρ' i = some L) (hb : L.blk = w.heap.size) (hs : L.sh = 0) (len cap : Nat) : VRel ρ' (.slice (some ⟨i, 0, none⟩) len cap) (.slice (some ⟨w.heap.size, 0, none⟩) len cap) := by
  have := VRel.slice (ρ := ρ') 0 len (cap := cap) (cap' := cap) hL (.inl rfl)
  rwa [hb, hs] at this
theorem xbuildSlice_ok {t : TypeId} {len : Nat} {ps : List (Nat × Value)} {ps' : Array (Nat × Value)} {v : Value} {s s' : St} (r : Rel N0 b0 w0 ρ s.h w) (hp : Parts ρ ps ps'.toList) (h : (xbuildSlice P N0 t len ps).run s = some (v, s')) :
    Good N0 b0 w0 ρ s' v ((Instr.buildSlice t len ps').run P w) := by
  unfold xbuildSlice at h
  split at h
  case h_2 => cases h
  case h_1 e hd =>
    split at h
    case h_2 => cases h
    case h_1 J hJ =>
      split at h
      case h_2 => cases h
      case h_1 z hz =>
        split at h
        case h_2 => cases h
        case h_1 hc =>
          rw [fL_eq] at h
          split at h
          case h_2 => cases h
          case h_1 c hc2 =>
            simp only [Bool.and_eq_true] at hc
            have c1 := Nat.eq_of_beq_eq_true hc.1.1.2
            have c2 : 0 < J.size := blt_iff hc.1.2
            have c3 := Nat.le_of_ble_eq_true hc.2
            have hsz : z.cells.size = J.size := by rw [← c1, ← cellsOf_eq]; simp
            obtain ⟨i, s1, h1, h'⟩ := X.bind_some h
            clear h
            obtain ⟨rfl, rfl⟩ := X.pure_some h'
            obtain ⟨c', e1, e2⟩ := xfill_ok (place' := fun i => some (i * J.size, J.size)) (fun _ _ h => h) hp (VRels.plain (rep_plain hc.1.1.1 len)) hc2
            obtain ⟨ρ', L, hle, hL, hb, hs, hr⟩ := xnew_ok r e2 h1
            refine ⟨ρ', _, .slice (some ⟨w.heap.size, 0, none⟩) len len, ?_, hle, hr, slice_new hL hb hs _ _⟩
            have hno : ¬ (len * J.size > 2 ^ 24) := by omega
            by_cases h0 : len * J.size = 0
            · have hl0 : len = 0 := by rcases Nat.mul_eq_zero.1 h0 with h | h <;> omega
              subst hl0
              have e1' : Instr.fill (fun i => some (i * J.size, J.size)) #[] ps'.toList = some ⟨c'⟩ := e1
              simp [Instr.buildSlice, run_underlying hd, run_sizeOf' hJ]
              rw [map_range0]
              simp [e1', run_newRow]
            · have hrep : (Array.range (len * J.size)).map (fun i => z.cells[i % z.cells.size]!) = ⟨rep (cellsOf z) len⟩ := by
                rw [← hsz, rep_eq, cellsOf_eq]
              simp only [Instr.buildSlice, Sem.run_bind, run_underlying hd, Result.andThen_ok, run_sizeOf' hJ, hno, if_false, h0, run_zeroValue' hJ hz, Sem.run_pure, hrep, e1, run_newRow]
def xmakeSlice (P : Program) (N0 : Nat) (t : TypeId) (l c : Value) : X Value := match P.underlying t, l, c with
  | some (.slice e), .int .i64 l, .int .i64 c => match toN l, toN c, P.info? e with
    | some l, some c, some J => match J.zero with
      | some z => match plainL (cellsOf z) && Nat.beq (cellsOf z).length J.size && Nat.ble l c && Nat.ble c 1048576 && Nat.ble J.bytes 1048576 with
        | true => fL (rep (cellsOf z) c) fun z => (xnew N0 z e).bind fun i => fN l fun l => fN c fun c => X.pure (.slice (some ⟨i, 0, none⟩) l c)
        | false => X.fail
      | none => X.fail
    | _, _, _ => X.fail
  | _, _, _ => X.fail
theorem xmakeSlice_ok {t : TypeId} {l l' c c' v : Value} {s s' : St} (r : Rel N0 b0 w0 ρ s.h w) (hl : VRel ρ l l') (hc : VRel ρ c c') (h : (xmakeSlice P N0 t l c).run s = some (v, s')) :
    Good N0 b0 w0 ρ s' v ((Instr.makeSlice t l' c').run P w) := by
  unfold xmakeSlice at h
  split at h
  case h_2 => cases h
  case h_1 e L C hd =>
    split at h
    case h_2 => cases h
    case h_1 ln cn J hl1 hc1 hJ =>
      have hl1 := toN_some hl1
      have hc1 := toN_some hc1
      subst hl1
      subst hc1
      split at h
      case h_2 => cases h
      case h_1 z hz =>
        split at h
        case h_2 => cases h
        case h_1 hcc =>
          rw [fL_eq] at h
          simp only [Bool.and_eq_true] at hcc
          have c1 := Nat.eq_of_beq_eq_true hcc.1.1.1.2
          have c2 := Nat.le_of_ble_eq_true hcc.1.1.2
          have c3 := Nat.le_of_ble_eq_true hcc.1.2
          have c4 := Nat.le_of_ble_eq_true hcc.2
          have hsz : z.cells.size = J.size := by rw [← c1, ← cellsOf_eq]; simp
          obtain ⟨i, s1, h1, h'⟩ := X.bind_some h
          clear h
          rw [fN_eq, fN_eq] at h'
          obtain ⟨rfl, rfl⟩ := X.pure_some h'
          cases hl
          cases hc
          obtain ⟨ρ', L, hle, hL, hb, hs, hr⟩ := xnew_ok r (VRels.plain (rep_plain hcc.1.1.1.1 cn)) h1
          refine ⟨ρ', _, .slice (some ⟨w.heap.size, 0, none⟩) ln cn, ?_, hle, hr, slice_new hL hb hs _ _⟩
          have w1 : IntKind.i64.wrap (ln : Int) = ln := wrap_small _ (by omega) (by omega)
          have w2 : IntKind.i64.wrap (cn : Int) = cn := wrap_small _ (by omega) (by omega)
          have hm := Nat.mul_le_mul c4 c3
          have hm2 : ((J.bytes : Int) * (cn : Int)) = ((J.bytes * cn : Nat) : Int) := by push_cast; rfl
          have hng : ((decide ((cn : Int) < 0) || decide ((J.bytes : Int) * (cn : Int) > 2 ^ 48) || decide ((ln : Int) < 0)) || decide ((ln : Int) > (cn : Int))) = false := by
            rw [hm2]
            simp only [Bool.or_eq_false_iff, decide_eq_false_iff_not]
            refine ⟨⟨⟨?_, ?_⟩, ?_⟩, ?_⟩ <;> omega
          by_cases h0 : cn * J.size = 0
          · have e0 : rep (cellsOf z) cn = [] := by
              rcases Nat.mul_eq_zero.1 h0 with h | h
              · subst h; rfl
              · have : cellsOf z = [] := List.eq_nil_of_length_eq_zero (by omega)
                rw [this, rep_nil]
            simp only [Instr.makeSlice, Sem.run_bind, run_underlying hd, Result.andThen_ok, asInt, asIntOf, Sem.run_pure, typeInfo, run_program, hJ, w1, w2, hng, Bool.false_eq_true, if_false, run_askRoom, run_sizeOf' hJ, Int.toNat_natCast, h0, if_true, run_newRow, e0, map_range0]
          · have hrep : (Array.range (cn * J.size)).map (fun i => z.cells[i % z.cells.size]!) = ⟨rep (cellsOf z) cn⟩ := by
              rw [← hsz, rep_eq, cellsOf_eq]
            simp only [Instr.makeSlice, Sem.run_bind, run_underlying hd, Result.andThen_ok, asInt, asIntOf, Sem.run_pure, typeInfo, run_program, hJ, w1, w2, hng, Bool.false_eq_true, if_false, run_askRoom, run_sizeOf' hJ, Int.toNat_natCast, h0, run_zeroValue' hJ hz, hrep, run_newRow]
end
end Go.Rx
