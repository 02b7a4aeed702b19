/- The ground of the runs at this program: the tables, the library's functions that are known, the start. -/
import Derived.Test.YtpfjakcfjpgbmaaGreatDoorZN10
import Derived.Test.YtpfjakcfjpgbmaaGreatDoorZN11
import Derived.Shelf.Strings.Fields
import Derived.Defers
import Derived.Recover
import Derived.Lib.Hide
namespace Go.Proofs.YtpfjakcfjpgbmaaGreatDoor
set_option linter.unusedVariables false
set_option linter.unusedSimpArgs false
open Go.RowKit Go.Rx

theorem fit : Fit Tryz.prog := ⟨by kernel_rfl, fun f fn hf hb he => by
  have h : Tryz.prog.funcs.toList.all (fun fn => !fn.body.isSome || !(fn.name == "runtime.NumGoroutine")) = true := by kernel_rfl
  have := List.all_eq_true.1 h fn (List.mem_of_getElem? (by rw [Array.getElem?_toList]; exact hf))
  simp [hb, he] at this⟩
/-- the deferred closure of a call that returns: nothing -/
theorem catch_idle (p q : Addr) (w : World) :
    CallsD Tryz.prog 79 #[.pointer (some p), .pointer (some q)] .returning w fun e u' w' => e = .returned (.tuple #[]) ∧ u' = .returning ∧ w' = w := by
  refine callsD_of_wpS Tryz.func79 rfl fun c₀ cs hu => ?_
  apply wpS_seq
  apply wpS_region
  simp [wpOpsS, go_sem, recoverD, hu, Tryz.ntmps79, Exit.thenS]
  refine wpS_of_wp ?_
  obtain ⟨Q, hQ⟩ : ∃ Q : Exit → Act → World → Prop, Q = fun e a' w' => bodyPostS Tryz.prog Tryz.f79 c₀ cs (fun e u' w' => e = .returned (.tuple #[]) ∧ u' = .returning ∧ w' = w) e a' (c₀ :: cs) w' := ⟨_, rfl⟩
  have hne : ∀ w, (binOp BinOp.eql 20 .nilIface .nilIface).run Tryz.prog w = .ok (.bool true) w := fun _ => by kernel_rfl
  rw [← hQ]
  show Code.wp Tryz.prog _ Q { tmps := #[.pointer (some p), .pointer (some q), undef, undef, undef, .nilIface, undef, undef, undef, undef, undef, undef, undef, undef, undef], defers := [] } w
  have HQ := Lib.hid hQ
  clear hQ
  go_wp2_with fail
  rw [HQ.out]
  exact ⟨rfl, .returning, by cases c₀; cases hu; rfl, .tuple #[], results_none rfl _ _ _, rfl, rfl, rfl⟩

def isPre : List UInt8 → List UInt8 → Bool
  | [], _ => true
  | a :: l, m => match m with
    | b :: m => match Nat.beq a.toNat b.toNat with
      | true => isPre l m
      | false => false
    | [] => false
theorem isPre_eq : ∀ l m : List UInt8, isPre l m = l.isPrefixOf m
  | [], m => by simp [isPre]
  | a :: l, [] => rfl
  | a :: l, b :: m => by
    have ih := isPre_eq l m
    dsimp only [isPre, List.isPrefixOf]
    by_cases h : a = b
    · subst h; simp [ih]
    · have : Nat.beq a.toNat b.toNat = false := by
        cases hq : Nat.beq a.toNat b.toNat
        · rfl
        · exact absurd (UInt8.toNat_inj.1 (Nat.eq_of_beq_eq_true hq)) h
      rw [this]
      simp [h]
def isIn (x : List UInt8) : List UInt8 → Bool
  | [] => isPre x []
  | b :: m => match isPre x (b :: m) with
    | true => true
    | false => isIn x m
theorem isIn_eq (x : List UInt8) : ∀ L : List UInt8, Lib.contains L x = isIn x L
  | [] => by
    unfold Lib.contains Lib.index
    rw [isIn, isPre_eq]
    cases x <;> simp
  | c :: r => by
    have ih := isIn_eq x r
    have hg := Lib.index_ge r x
    unfold Lib.contains at ih ⊢
    unfold Lib.index
    rw [isIn, isPre_eq]
    by_cases h : x.isPrefixOf (c :: r) = true
    · simp [h]
    · rw [if_neg h, ← ih]
      simp only [Bool.not_eq_true] at h
      rw [h]
      by_cases h2 : Lib.index r x = -1
      · simp [h2]
      · have h3 : (Lib.index r x == -1) = false := by simpa using h2
        rw [h3]
        simp only [Bool.false_eq_true, if_false, decide_eq_decide]
        omega
def idxB (c : Nat) : List UInt8 → Nat → Option Nat
  | [], _ => none
  | b :: m, i => match Nat.beq b.toNat c with
    | true => some i
    | false => idxB c m (i + 1)
theorem idxB_eq (c : UInt8) : ∀ (l : List UInt8) (i : Nat), (match idxB c.toNat l i with | some k => Lib.indexByte l c = (k : Int) - i ∧ i ≤ k | none => Lib.indexByte l c = -1)
  | [], i => rfl
  | b :: m, i => by
    have ih := idxB_eq c m (i + 1)
    unfold Lib.indexByte
    dsimp only [idxB]
    by_cases h : b = c
    · subst h
      rw [Nat.beq_refl]
      simp
    · have h2 : Nat.beq b.toNat c.toNat = false := by
        cases hq : Nat.beq b.toNat c.toNat
        · rfl
        · exact absurd (UInt8.toNat_inj.1 (Nat.eq_of_beq_eq_true hq)) h
      rw [h2]
      simp only [h, beq_iff_eq, if_false]
      cases hq : idxB c.toNat m (i + 1) with
      | none =>
        rw [hq] at ih
        simp only at ih
        simp [ih]
      | some k =>
        rw [hq] at ih
        simp only at ih
        obtain ⟨h3, h4⟩ := ih
        have : Lib.indexByte m c ≠ -1 := by omega
        simp only [this, if_false]
        omega

def SEnv (w : World) : Prop := ∃ m, w.cell? ⟨2, 0, none⟩ = some (.int .i64 m)
theorem SEnv.still (w w' : World) (h : ∀ i, i < 12 → w'.heap[i]? = w.heap[i]?) (e : SEnv w) : SEnv w' := by
  obtain ⟨m, hm⟩ := e
  exact ⟨m, by unfold World.cell? at hm ⊢; rw [h _ (by decide)]; exact hm⟩
def kfn0 : FuncId → Option (List Value → Option Ret)
  | 227 => some fun
    | [.string a, .string b] => match Nat.blt a.data.toList.length 4294967281 with
      | true => some ⟨[], .bool (isIn b.data.toList a.data.toList)⟩
      | false => none
    | _ => none
  | 218 => some fun
    | [.string a, .int .u8 (.ofNat c)] => match Nat.blt c 256 with
      | true => match idxB c a.data.toList 0 with
        | some i => some ⟨[], .int .i64 (.ofNat i)⟩
        | none => some ⟨[], .int .i64 (.negSucc 0)⟩
      | false => none
    | _ => none
  | _ => none
def kid : FuncId → Option Nat
  | 79 => some 2
  | _ => none
/-- nothing is known of the heap -/
theorem rel_none {w : World} (hn : 12 ≤ w.heap.size) : Rel 12 w.heap.size w (fun g => if g < 12 then some ⟨g, 0, 0, none⟩ else none) .e w where
  glob g hg := ⟨_, if_pos hg, rfl, rfl⟩
  obj i o h := by rw [T.get_e] at h; cases h
  apart i j oi oj Li Lj h := by rw [T.get_e] at h; cases h
  new i hi _ := if_neg (by omega)
  fresh i o L _ _ hi h := by
    have : ¬ i < 12 := by omega
    simp only [this, if_false] at h
    cases h
  low _ _ := rfl
  b0le := Nat.le_refl _
  n0le := hn
  os := rfl
  out := rfl
theorem kid_ok : IdleOk Tryz.prog kid := by
  intro g m h args hl hp w
  unfold kid at h
  split at h
  case h_2 => cases h
  case h_1 =>
    cases h
    match args, hl, hp with
    | [x, y], _, hp =>
      obtain ⟨p, rfl⟩ := hp x (by simp)
      obtain ⟨q, rfl⟩ := hp y (by simp)
      refine ⟨enters_of Tryz.func79 (by kernel_rfl) rfl _ _, (catch_idle p q w).mono ?_⟩
      rintro e u' w' ⟨rfl, rfl, rfl⟩
      exact ⟨⟨_, rfl⟩, rfl, rfl⟩
theorem kfn0_ok (f : FuncId) (g : List Value → Option Ret) (h : kfn0 f = some g) (args : List Value) (R : Ret) (hR : g args = some R) : plainL args = true ∧ (∀ (k k' i : Nat) (o o' : AObj), R.objs[k]? = some (i, o) → R.objs[k']? = some (i, o') → k = k') ∧
    ∀ w : World, SEnv w → 12 ≤ w.heap.size →
      ((callFunc f ⟨args⟩).run Tryz.prog w = .ok (.value R.v) w ∧ R.objs = [] ∧ plainL (cellsOf R.v) = true) ∨
      ((callFunc f ⟨args⟩).run Tryz.prog w = .ok (.enter f ⟨args⟩) w ∧ Calls Tryz.prog f ⟨args⟩ w fun e w' => ∃ ρ' h' v', e = .returned v' ∧ Rel 12 w.heap.size w ρ' h' w' ∧ VRel ρ' R.v v' ∧ ∀ (k i : Nat) (o : AObj), R.objs[k]? = some (i, o) → 12 ≤ i ∧ h'.get i = some o) := by
  unfold kfn0 at h
  split at h
  · cases h
    dsimp only at hR
    split at hR
    · rename_i a b
      split at hR
      case h_2 => cases hR
      case h_1 hlt =>
        cases hR
        refine ⟨rfl, fun _ _ _ _ _ h => (by simp at h), fun w hE hn => .inr ⟨enters_of Tryz.func227 (by kernel_rfl) rfl _ _, ?_⟩⟩
        obtain ⟨m, hm⟩ := hE
        have hsz : a.size < 4294967281 := by
          rw [Nat.blt_eq] at hlt
          rw [Array.length_toList] at hlt
          exact hlt
        refine (Tryz.strings_Contains a b m w hsz hm).mono ?_
        rintro e w' ⟨rfl, rfl⟩
        exact ⟨_, _, _, rfl, rel_none hn, by rw [isIn_eq]; exact .bool _, fun _ _ _ h => (by simp at h)⟩
    · cases hR
  · cases h
    dsimp only at hR
    split at hR
    · rename_i a c
      split at hR
      case h_2 => cases hR
      case h_1 hc =>
        have hc : c < 256 := by rwa [Nat.blt_eq] at hc
        have hq := idxB_eq (UInt8.ofNat c) a.data.toList 0
        have hcc : (UInt8.ofNat c).toNat = c := by simp; omega
        rw [hcc] at hq
        have hrun : ∀ w : World, (callFunc 218 ⟨[.string a, .int .u8 (.ofNat c)]⟩).run Tryz.prog w = .ok (.value (.int .i64 (Lib.indexByte a.data.toList (UInt8.ofNat c)))) w := fun w => by
          rw [run_callFunc_extern Tryz.func218 (by kernel_rfl) (by kernel_rfl) (by kernel_rfl) (e := Extern.BytealgIndexByte.indexByte) (by kernel_rfl), Lib.run_indexByteString]
          rfl
        split at hR
        · rename_i i hi
          rw [hi] at hq
          obtain ⟨h1, h2⟩ := hq
          cases hR
          refine ⟨rfl, fun _ _ _ _ _ h => (by simp at h), fun w _ _ => .inl ⟨?_, rfl, rfl⟩⟩
          rw [hrun, h1]
          simp
        · rename_i hi
          rw [hi] at hq
          simp only at hq
          cases hR
          refine ⟨rfl, fun _ _ _ _ _ h => (by simp at h), fun w _ _ => .inl ⟨?_, rfl, rfl⟩⟩
          rw [hrun, hq]
          rfl
    · cases hR
  · cases h
/-- what is known of the library -/
def known0 : Known Tryz.prog 12 := ⟨SEnv, SEnv.still, kfn0, kfn0_ok, kid, kid_ok, noOp, noOp_ok⟩

/-- what the laws of this layer want of the variables -/
structure SAt (w : World) : Prop where
  max : SEnv w
  sp : Lib.TabIs Tryz.prog w "strings.asciiSpace" .u8 Lib.asciiSpaceTab
  size : 12 ≤ w.heap.size
def sp256 : List Value := [.int .u8 0, .int .u8 0, .int .u8 0, .int .u8 0, .int .u8 0, .int .u8 0, .int .u8 0, .int .u8 0, .int .u8 0, .int .u8 1, .int .u8 1, .int .u8 1, .int .u8 1, .int .u8 1, .int .u8 0, .int .u8 0, .int .u8 0, .int .u8 0, .int .u8 0, .int .u8 0, .int .u8 0, .int .u8 0, .int .u8 0, .int .u8 0, .int .u8 0, .int .u8 0, .int .u8 0, .int .u8 0, .int .u8 0, .int .u8 0, .int .u8 0, .int .u8 0, .int .u8 1, .int .u8 0, .int .u8 0, .int .u8 0, .int .u8 0, .int .u8 0, .int .u8 0, .int .u8 0, .int .u8 0, .int .u8 0, .int .u8 0, .int .u8 0, .int .u8 0, .int .u8 0, .int .u8 0, .int .u8 0, .int .u8 0, .int .u8 0, .int .u8 0, .int .u8 0, .int .u8 0, .int .u8 0, .int .u8 0, .int .u8 0, .int .u8 0, .int .u8 0, .int .u8 0, .int .u8 0, .int .u8 0, .int .u8 0, .int .u8 0, .int .u8 0, .int .u8 0, .int .u8 0, .int .u8 0, .int .u8 0, .int .u8 0, .int .u8 0, .int .u8 0, .int .u8 0, .int .u8 0, .int .u8 0, .int .u8 0, .int .u8 0, .int .u8 0, .int .u8 0, .int .u8 0, .int .u8 0, .int .u8 0, .int .u8 0, .int .u8 0, .int .u8 0, .int .u8 0, .int .u8 0, .int .u8 0, .int .u8 0, .int .u8 0, .int .u8 0, .int .u8 0, .int .u8 0, .int .u8 0, .int .u8 0, .int .u8 0, .int .u8 0, .int .u8 0, .int .u8 0, .int .u8 0, .int .u8 0, .int .u8 0, .int .u8 0, .int .u8 0, .int .u8 0, .int .u8 0, .int .u8 0, .int .u8 0, .int .u8 0, .int .u8 0, .int .u8 0, .int .u8 0, .int .u8 0, .int .u8 0, .int .u8 0, .int .u8 0, .int .u8 0, .int .u8 0, .int .u8 0, .int .u8 0, .int .u8 0, .int .u8 0, .int .u8 0, .int .u8 0, .int .u8 0, .int .u8 0, .int .u8 0, .int .u8 0, .int .u8 0, .int .u8 0, .int .u8 0, .int .u8 0, .int .u8 0, .int .u8 0, .int .u8 0, .int .u8 0, .int .u8 0, .int .u8 0, .int .u8 0, .int .u8 0, .int .u8 0, .int .u8 0, .int .u8 0, .int .u8 0, .int .u8 0, .int .u8 0, .int .u8 0, .int .u8 0, .int .u8 0, .int .u8 0, .int .u8 0, .int .u8 0, .int .u8 0, .int .u8 0, .int .u8 0, .int .u8 0, .int .u8 0, .int .u8 0, .int .u8 0, .int .u8 0, .int .u8 0, .int .u8 0, .int .u8 0, .int .u8 0, .int .u8 0, .int .u8 0, .int .u8 0, .int .u8 0, .int .u8 0, .int .u8 0, .int .u8 0, .int .u8 0, .int .u8 0, .int .u8 0, .int .u8 0, .int .u8 0, .int .u8 0, .int .u8 0, .int .u8 0, .int .u8 0, .int .u8 0, .int .u8 0, .int .u8 0, .int .u8 0, .int .u8 0, .int .u8 0, .int .u8 0, .int .u8 0, .int .u8 0, .int .u8 0, .int .u8 0, .int .u8 0, .int .u8 0, .int .u8 0, .int .u8 0, .int .u8 0, .int .u8 0, .int .u8 0, .int .u8 0, .int .u8 0, .int .u8 0, .int .u8 0, .int .u8 0, .int .u8 0, .int .u8 0, .int .u8 0, .int .u8 0, .int .u8 0, .int .u8 0, .int .u8 0, .int .u8 0, .int .u8 0, .int .u8 0, .int .u8 0, .int .u8 0, .int .u8 0, .int .u8 0, .int .u8 0, .int .u8 0, .int .u8 0, .int .u8 0, .int .u8 0, .int .u8 0, .int .u8 0, .int .u8 0, .int .u8 0, .int .u8 0, .int .u8 0, .int .u8 0, .int .u8 0, .int .u8 0, .int .u8 0, .int .u8 0, .int .u8 0, .int .u8 0, .int .u8 0, .int .u8 0, .int .u8 0, .int .u8 0, .int .u8 0, .int .u8 0, .int .u8 0, .int .u8 0, .int .u8 0, .int .u8 0, .int .u8 0, .int .u8 0, .int .u8 0, .int .u8 0, .int .u8 0, .int .u8 0, .int .u8 0, .int .u8 0, .int .u8 0, .int .u8 0, .int .u8 0, .int .u8 0]
noncomputable def H0 : T AObj := T.set .e 1 (.cells sp256 5 0 256 none)
def ren0 : Ren := fun g => if g < 12 then some ⟨g, 0, if g = 1 then 256 else 3, none⟩ else none
theorem H0_get (i : Nat) : H0.get i = if 1 = i then some (.cells sp256 5 0 256 none) else none := by
  unfold H0
  rw [T.get_set, T.get_e]
theorem vrels_self {ρ : Ren} : ∀ {l : List Value}, (∀ v ∈ l, VRel ρ v v) → VRels ρ l l
  | [], _ => .nil
  | v :: l, h => .cons (h v (by simp)) (vrels_self fun u hu => h u (by simp [hu]))
theorem rel0 {w : World} (h : SAt w) : Rel 12 w.heap.size w ren0 H0 w where
  glob g hg := ⟨_, if_pos hg, rfl, rfl⟩
  obj i o e := by
    rw [H0_get] at e
    split at e
    · rename_i hi
      cases e
      subst hi
      refine ⟨_, if_pos (by decide), rfl, ?_⟩
      have hk := h.sp
      unfold Lib.TabIs World.var? at hk
      rw [show Tryz.prog.globalNamed "strings.asciiSpace" = some 1 by kernel_rfl] at hk
      simp only [Option.bind_some] at hk
      have hz : Lib.asciiSpaceTab.map (fun z => Value.int .u8 z) = sp256 := by kernel_rfl
      rw [hz] at hk
      split at hk
      case h_2 => cases hk
      case h_1 cs t fr hb =>
        cases hk
        refine ⟨_, _, _, hb, rfl, by kernel_rfl, fun _ => ⟨rfl, by kernel_rfl⟩, of_decide_eq_true (by kernel_rfl), ?_, fun j _ _ _ h4 => ⟨Nat.zero_le _, h4⟩⟩
        have : (sp256.toArray.toList.drop 0).take sp256.length = sp256 := by simp
        rw [this]
        exact .plain (by kernel_rfl)
    · cases e
  apart i j oi oj Li Lj _ _ _ _ h1 h2 hb := by
    unfold ren0 at h1 h2
    split at h1
    · split at h2
      · cases h1; cases h2; exact .inl hb
      · cases h2
    · cases h1
  new i hi _ := if_neg (by omega)
  fresh i o L _ _ hi e := by
    unfold ren0 at e
    rw [if_neg (by omega)] at e
    cases e
  low _ _ := rfl
  b0le := Nat.le_refl _
  n0le := h.size
  os := rfl
  out := rfl
end Go.Proofs.YtpfjakcfjpgbmaaGreatDoor
