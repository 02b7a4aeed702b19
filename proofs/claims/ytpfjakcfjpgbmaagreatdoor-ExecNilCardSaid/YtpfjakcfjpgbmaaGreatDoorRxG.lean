/- A region of any order. -/
import Derived.Test.YtpfjakcfjpgbmaaGreatDoorRxD
namespace Go.Rx
set_option linter.unusedVariables false
set_option linter.unusedSimpArgs false
noncomputable section
variable {P : Program} {N0 b0 : Nat} {w0 : World} {ρ : Ren} {w : World}

theorem valX_congr {call : CallX} {ops : Array Oper} {A B : Tm} {o : Oper} (h : ∀ t ∈ o.looksAt ops, A.get t = B.get t) : valX P N0 call ops.toList A o = valX P N0 call ops.toList B o := by
  have hop : ∀ x ∈ o.op.operands.toList, ev N0 A x = ev N0 B x := fun x hx => by
    cases x with
    | tmp t => exact h t (List.mem_append_left _ (List.mem_filterMap.2 ⟨.tmp t, hx, rfl⟩))
    | _ => rfl
  have hw : wantX ops.toList A o = wantX ops.toList B o := by
    unfold wantX
    cases hg : o.guard with
    | none => rfl
    | some g =>
      obtain ⟨j, b⟩ := g
      dsimp only
      cases hj : ops.toList[j]? with
      | none => rfl
      | some oj =>
        dsimp only
        cases ht : oj.dst with
        | none => rfl
        | some t =>
          have hj' : ops[j]? = some oj := by simpa using hj
          dsimp only
          rw [h t (List.mem_append_right _ (by rw [hg]; simp [hj', ht]))]
  unfold valX
  rw [hw]
  split
  · split
    · rename_i f args ts hop'
      rw [hop f (by rw [hop']; simp [Op.operands, Call.operands]), evs_congr (l := args.toList) fun x hx => hop x (by rw [hop']; simp [Op.operands, Call.operands]; exact .inr (by simpa using hx))]
    · rename_i f name args ts hop'
      rw [hop f (by rw [hop']; simp [Op.operands, Call.operands]), evs_congr (l := args.toList) fun x hx => hop x (by rw [hop']; simp [Op.operands, Call.operands]; exact .inr (by simpa using hx))]
    · rename_i f ts hop'
      rw [hop f (by rw [hop']; simp [Op.operands, Call.operands])]
    · exact xop_congr o hop
  · rfl
  · rfl

def drawX (P : Program) (N0 : Nat) (call : CallX) (n : Nat) (ops : Array Oper) (A : Tm) : X Tm := match statOk ops with
  | true => (opsM P N0 call n ops.toList ops.toList A).bind fun p => match allOk noc [] ((befs ops.toList []).zip p.2) with
    | true => X.pure p.1
    | false => X.fail
  | false => X.fail

theorem doPut_ok {n : Nat} {A A' B : Tm} {d : Option Tmp} {v : Value} (h : doPut n A d v = some A') : ∃ B', doPut n B d v = some B' := by
  unfold doPut at h ⊢
  split at h
  · exact ⟨B, rfl⟩
  · rename_i d
    split at h
    · exact ⟨T.set B d v, by rw [T.setK_eq]⟩
    · cases h

theorem count_set {l : List Bool} {i : Nat} (h : l[i]? = some false) : (l.set i true).count false + 1 = l.count false := by
  induction l generalizing i with
  | nil => cases h
  | cons b l ih =>
    cases i with
    | zero => cases h; simp
    | succ i =>
      have := ih (i := i) h
      cases b <;> simp <;> omega

set_option maxHeartbeats 1000000 in
theorem drawX_ok {n : Nat} {call : CallX} (hc : CallOk P N0 b0 w0 call) (hm : P.follows .mixedOrders = true) {id : Nat} {ops : Array Oper} {A A' : Tm} {a : Act} {s s' : St} {Q : Exit → Act → World → Prop}
    (r : Rel N0 b0 w0 ρ s.h w) (hA : ARel P n ρ A a) (h : (drawX P N0 call n ops A).run s = some (A', s'))
    (hQ : ∀ ρ' w' a', ρ.le ρ' → Rel N0 b0 w0 ρ' s'.h w' → ARel P n ρ' A' a' → Q .normal a' w') : (Code.region id ops true).wp P Q a w := by
  unfold drawX at h
  split at h
  case h_2 => cases h
  case h_1 hst =>
    obtain ⟨⟨A2, ms⟩, s2, h1, h2⟩ := X.bind_some h
    dsimp only at h2
    split at h2
    case h_2 => cases h2
    case h_1 hall =>
      obtain ⟨rfl, rfl⟩ := X.pure_some h2
      obtain ⟨S, AA, a1, a2, a3, a4, a5, a6⟩ := opsM_steps h1
      simp only [statOk, Bool.and_eq_true] at hst
      obtain ⟨⟨hedge, hsel⟩, hap⟩ := hst
      have hk : ops.toList.length = ops.size := Array.length_toList
      have hlb : (befs ops.toList []).length = ops.size := by rw [(befs_acc _ _).1]; simp
      have oget : ∀ {j o}, ops[j]? = some o → ops.toList[j]? = some o := fun h => by rw [Array.getElem?_toList]; exact h
      have osome : ∀ j, j < ops.size → ∃ o, ops[j]? = some o := fun j hj => ⟨ops[j], by simp [hj]⟩
      have olt : ∀ {j o}, ops[j]? = some o → j < ops.size := fun h => (Array.getElem?_eq_some_iff.1 h).1
      have bget : ∀ j, j < ops.size → ∃ b, (befs ops.toList [])[j]? = some b := fun j hj => ⟨(befs ops.toList [])[j]'(by omega), List.getElem?_eq_getElem _⟩
      -- pairs
      have P1 : ∀ (i j : Nat) (oi oj : Oper) (b : Nat), ops[i]? = some oi → ops[j]? = some oj → i < j → (befs ops.toList [])[j]? = some b → b.testBit i = true ∨ oi.apart ops oj = true := fun i j oi oj b hi hj hlt hb => by
        refine allOk_get (prev := []) (i := i) (j := j) (b := b) hap ?_ ?_ (by simpa using hlt)
        · rw [List.getElem?_zip_eq_some]; exact ⟨hb, oget hj⟩
        · rw [List.nil_append, List.map_snd_zip (by omega)]; exact oget hi
      have P2 : ∀ (i j : Nat) (p q : Nat × Nat) (b : Nat), ms[i]? = some p → ms[j]? = some q → i < j → (befs ops.toList [])[j]? = some b → b.testBit i = true ∨ noc p q = true := fun i j p q b hi hj hlt hb => by
        refine allOk_get (prev := []) (i := i) (j := j) (b := b) hall ?_ ?_ (by simpa using hlt)
        · rw [List.getElem?_zip_eq_some]; exact ⟨hb, hj⟩
        · rw [List.nil_append, List.map_snd_zip (by omega)]; exact hi
      -- what is ahead has been done
      have reach : ∀ (L : Nat → Bool), (∀ (j : Nat) (o : Oper), ops[j]? = some o → L j = true → ∀ e ∈ o.after, Region.binds .any e = true → L e.on = true) →
          ∀ (j : Nat) (o : Oper) (b i : Nat), ops[j]? = some o → (befs ops.toList [])[j]? = some b → (∀ e ∈ o.after, Region.binds .any e = true → L e.on = true) → b.testBit i = true → L i = true := fun L hcl j => by
        induction j using Nat.strongRecOn with
        | _ j ih =>
          intro o b i ho hb hed hbit
          have := befs_get ops.toList [] j o (oget ho)
          rw [List.length_nil, Nat.zero_add, hb] at this
          cases this
          obtain ⟨e, he, hbd, hx⟩ := aheadOf_bit hbit
          have he : e ∈ o.after := by simpa using he
          have hlt : e.on < j := by have := edgesOk_get hedge (oget ho) e he hbd; omega
          have hLe := hed e he hbd
          rcases hx with rfl | hx
          · exact hLe
          · have hjs := olt ho
            obtain ⟨oe, hoe⟩ := osome e.on (by omega)
            obtain ⟨be, hbe⟩ := bget e.on (by omega)
            have : ((befs ops.toList []).take j).getD e.on 0 = be := by
              rw [List.getD_eq_getElem?_getD, List.getElem?_take_of_lt hlt, hbe]; rfl
            rw [this] at hx
            exact ih e.on hlt oe be i hoe hbe (hcl _ _ hoe hLe) hx
      -- the steps' content
      let HH : Lc → Nat → Ct := fun x j => (S j).h.look x
      let TT : Nat → Nat → Option Value := fun x j => (AA j).get x
      let wm : Nat → Nat := fun j => (ms.getD j (0, 0)).2
      let dd : Nat → Option Tmp := fun j => (ops[j]?).bind (·.dst)
      have mget : ∀ {j p}, ms[j]? = some p → wm j = p.2 := fun h => by simp [wm, h]
      have keepH : ∀ (x : Lc) j, j < ops.size → (wm j).testBit (bitOf x) = false → HH x (j + 1) = HH x j := fun x j hj hb => by
        obtain ⟨o, ho⟩ := osome j hj
        obtain ⟨v, rr, ww, e1, e2, e3⟩ := a6 j o (oget ho)
        obtain ⟨dr, dw, _, f2, f3⟩ := X.Framed.keeps (valX P N0 call ops.toList (AA j) o).fr e2
        simp only [Nat.zero_or] at f2
        rw [mget e1] at hb
        have f2 : ww = dw := f2
        exact f3 x (by rw [← f2]; exact hb)
      have keepT : ∀ x j, j < ops.size → (dd j == some x) = false → TT x (j + 1) = TT x j := fun x j hj hb => by
        obtain ⟨o, ho⟩ := osome j hj
        obtain ⟨v, rr, ww, e1, e2, e3⟩ := a6 j o (oget ho)
        have := doPut_get e3 x
        have hd : dd j = o.dst := by simp [dd, ho]
        rw [hd] at hb
        have hne : ¬ (o.dst = some x) := fun e => by rw [e] at hb; simp at hb
        rw [if_neg hne] at this
        exact this
      refine wp_region_any hm ?_
      -- any state on the way
      have key : ∀ (fuel : Nat) (listed : Array Bool) (a : Act) (w : World) (ρ' : Ren) (t : T AObj) (B : Tm), listed.size = ops.size → listed.toList.count false = fuel → ρ.le ρ' → Rel N0 b0 w0 ρ' t w → ARel P n ρ' B a →
          (∀ (j : Nat) (o : Oper), ops[j]? = some o → listed.getD j false = true → ∀ e ∈ o.after, Region.binds .any e = true → listed.getD e.on false = true) →
          (∀ x : Lc, t.look x = mix (HH x) (fun j => (wm j).testBit (bitOf x)) (fun j => listed.getD j false) ops.size) →
          (∀ x, B.get x = mix (TT x) (fun j => dd j == some x) (fun j => listed.getD j false) ops.size) → wpAny P .any ops Q fuel listed a w := by
        intro fuel
        induction fuel with
        | zero =>
          intro listed a w ρ' t B hs hcnt hle hr hB hcl ht hT
          have hallL : ∀ j, j < ops.size → listed.getD j false = true := fun j hj => by
            have hj' : j < listed.toList.length := by simp; omega
            have : ¬ (false ∈ listed.toList) := by rw [← List.count_pos_iff]; omega
            have hm := List.getElem_mem hj'
            have : listed.toList[j] ≠ false := fun e => this (e ▸ hm)
            have : listed.toList[j] = true := by simpa using this
            have hj2 : j < listed.size := by omega
            simpa [hj2] using this
          constructor
          · rw [List.eq_nil_iff_forall_not_mem]
            intro j hj
            obtain ⟨h0, o, ho, _⟩ := mem_ready.1 hj
            have := hallL j (olt ho)
            have hj2 : j < listed.size := by have := olt ho; omega
            simp [hj2] at h0 this
            rw [h0] at this; cases this
          · refine hQ ρ' w a hle (hr.same (fun x => look_get fun y => ?_) rfl rfl rfl) ⟨hB.size, hB.defers, fun x v hx => hB.tmp x v ?_⟩
            · rw [ht (x, y), mix_low (fun j hj => keepH (x, y) j hj) (fun j hj _ => hallL j hj), ← hk]
              show _ = HH (x, y) ops.toList.length
              simp only [HH, a3]
            · rw [hT x, mix_low (fun j hj => keepT x j hj) (fun j hj _ => hallL j hj), ← hk]
              simp only [TT, a4]
              exact hx
        | succ fuel ih =>
          intro listed a w ρ' t B hs hcnt hle hr hB hcl ht hT
          have hnone : ∃ j, j ∈ Region.ready .any ops listed := by
            -- the first that is not listed
            have : ∃ j, j < ops.size ∧ listed.getD j false = false := by
              have hmem : false ∈ listed.toList := List.count_pos_iff.1 (by omega)
              obtain ⟨j, hj, e⟩ := List.getElem_of_mem hmem
              have hj2 : j < listed.size := by simpa using hj
              exact ⟨j, by omega, by simpa [hj2] using e⟩
            obtain ⟨j, hj⟩ := this
            induction j using Nat.strongRecOn with
            | _ j ihj =>
              by_cases hex : ∃ i, i < j ∧ listed.getD i false = false
              · obtain ⟨i, hi, e⟩ := hex
                exact ihj i hi ⟨by omega, e⟩
              · obtain ⟨o, ho⟩ := osome j hj.1
                refine ⟨j, mem_ready.2 ⟨?_, o, ho, fun e he hb => ?_⟩⟩
                · have hj2 : j < listed.size := by omega
                  have := hj.2
                  simp [hj2] at this ⊢
                  exact this
                · have hlt : e.on < j := by have := edgesOk_get hedge (oget ho) e he hb; omega
                  cases hc : listed.getD e.on false
                  · exact absurd ⟨e.on, hlt, hc⟩ hex
                  · rfl
          refine ⟨fun h0 => (by obtain ⟨j, hj⟩ := hnone; rw [h0] at hj; cases hj), fun i hi => ?_⟩
          obtain ⟨hi0, o, ho, hedg⟩ := mem_ready.1 hi
          have hik := olt ho
          have hil : i < listed.size := by omega
          have hiF : listed.getD i false = false := by simp [hil] at hi0 ⊢; exact hi0
          obtain ⟨v, rr, ww, e1, e2, e3⟩ := a6 i o (oget ho)
          have hwi : wm i = ww := mget e1
          obtain ⟨bi, hbi⟩ := bget i hik
          -- earlier ones that touch the same are done, later ones are not
          have before : ∀ j, j < i → bi.testBit j = true → listed.getD j false = true := fun j _ hb => reach (fun j => listed.getD j false) hcl i o bi j ho hbi hedg hb
          have behind : ∀ (j b : Nat), i < j → j < ops.size → listed.getD j false = true → (befs ops.toList [])[j]? = some b → b.testBit i = true → False := fun j b hlt hj hL hb hbit => by
            obtain ⟨oj, hoj⟩ := osome j hj
            have := reach (fun j => listed.getD j false) hcl j oj b i hoj hb (hcl j oj hoj hL) hbit
            rw [hiF] at this; cases this
          have later : ∀ (x : Lc) j, (rr ||| ww).testBit (bitOf x) = true → i < j → j < ops.size → listed.getD j false = true → (wm j).testBit (bitOf x) = false := fun x j hx hlt hj hL => by
            obtain ⟨oj, hoj⟩ := osome j hj
            obtain ⟨vj, rj, wj, g1, _⟩ := a6 j oj (oget hoj)
            obtain ⟨b, hb⟩ := bget j hj
            rcases P2 i j _ _ b e1 g1 hlt hb with hbit | hno
            · exact (behind j b hlt hj hL hb hbit).elim
            · rw [mget g1]
              cases hq : wj.testBit (bitOf x)
              · rfl
              · exact ((noc_bits hno (bitOf x)).2 ⟨hq, hx⟩).elim
          have agree : ∀ x : Lc, (rr ||| ww).testBit (bitOf x) = true → t.look x = (S i).h.look x := fun x hx => by
            rw [ht x, mix_high (m := i) (by omega) fun j hj1 hj2 hL => ?_, mix_low (fun j hj => keepH x j (by omega)) fun j hj hbit => ?_]
            · obtain ⟨oj, hoj⟩ := osome j (by omega)
              obtain ⟨vj, rj, wj, g1, _⟩ := a6 j oj (oget hoj)
              rcases P2 j i _ _ bi g1 e1 hj hbi with hb | hno
              · exact before j hj hb
              · rw [mget g1] at hbit
                exact ((noc_bits hno (bitOf x)).1 ⟨hbit, hx⟩).elim
            · rcases Nat.lt_or_ge i j with hlt | hge
              · exact later x j hx hlt hj2 hL
              · have : j = i := by omega
                subst this
                rw [hiF] at hL; cases hL
          have agreeT : ∀ x ∈ o.looksAt ops, (AA i).get x = B.get x := fun x hx => by
            rw [hT x, mix_high (m := i) (by omega) fun j hj1 hj2 hL => ?_, mix_low (fun j hj => keepT x j (by omega)) fun j hj hbit => ?_]
            · obtain ⟨oj, hoj⟩ := osome j (by omega)
              rcases P1 j i oj o bi hoj ho hj hbi with hb | hno
              · exact before j hj hb
              · have hdj : dd j = oj.dst := by simp [dd, hoj]
                rw [hdj] at hbit
                exact absurd hx ((Oper.apart_spec hno).1 x (eq_of_beq hbit))
            · rcases Nat.lt_or_ge i j with hlt | hge
              · obtain ⟨oj, hoj⟩ := osome j hj2
                obtain ⟨b, hb⟩ := bget j hj2
                rcases P1 i j o oj b ho hoj hlt hb with hbit | hno
                · exact (behind j b hlt hj2 hL hb hbit).elim
                · have hdj : dd j = oj.dst := by simp [dd, hoj]
                  rw [hdj]
                  cases hq : (oj.dst == some x)
                  · rfl
                  · exact absurd hx ((Oper.apart_spec hno).2.2 x (eq_of_beq hq))
              · have : j = i := by omega
                subst this
                rw [hiF] at hL; cases hL
          -- the step itself
          obtain ⟨dr, dw, q1, q2, F⟩ := (valX P N0 call ops.toList (AA i) o).fr _ _ _ e2
          simp only [Nat.zero_or] at q1 q2
          have q1 : rr = dr := q1
          have q2 : ww = dw := q2
          obtain ⟨t', f1, f2, f3, f4, f5⟩ := F ⟨(S i).nx, t, 0, 0⟩ rfl fun x hx => agree x (by rw [q1, q2]; exact hx)
          rw [valX_congr agreeT] at f1
          obtain ⟨B', hB'⟩ := doPut_ok (B := B) e3
          have hgi : ∀ j, (listed.setIfInBounds i true).getD j false = if j = i then true else listed.getD j false := fun j => by
            by_cases hji : j = i
            · subst hji; simp [hil]
            · rw [if_neg hji]; exact getD_set_ne false (Ne.symm hji)
          refine valX_ok hc (s := ⟨(S i).nx, t, 0, 0⟩) hr hB ho f1 hB' fun ρ2 w2 a2 hle2 hr2 hB2 => ?_
          refine ih (listed.setIfInBounds i true) a2 w2 ρ2 t'.h B' (by simpa using hs) ?_ (Ren.le_trans hle hle2) hr2 hB2 ?_ ?_ ?_
          · have : listed.toList[i]? = some false := by
              have := hi0
              simp [hil] at this ⊢
              exact this
            have := count_set this
            simp only [Array.toList_setIfInBounds]
            omega
          · intro j oj hoj hL e he hb
            rw [hgi] at hL ⊢
            by_cases hji : j = i
            · subst hji
              rw [ho] at hoj
              cases hoj
              split
              · rfl
              · exact hedg e he hb
            · rw [if_neg hji] at hL
              split
              · rfl
              · exact hcl j oj hoj hL e he hb
          · intro x
            rw [f5 x, ← q2, mix_step (L := fun j => listed.getD j false) hik hiF (by rw [hgi]; simp) (fun j hj => by rw [hgi, if_neg hj]) (fun hti j h1 h2 h3 => later x j (by rw [hwi] at hti; simp [hti]) h1 h2 h3), hwi]
            split
            · rfl
            · exact ht x
          · intro x
            have hdi : dd i = o.dst := by simp [dd, ho]
            rw [doPut_get hB' x, mix_step (L := fun j => listed.getD j false) hik hiF (by rw [hgi]; simp) (fun j hj => by rw [hgi, if_neg hj]) ?_]
            · rw [hdi]
              by_cases hq : o.dst = some x
              · rw [if_pos hq, hq]
                simp only [beq_self_eq_true, if_true]
                have := doPut_get e3 x
                rw [if_pos hq] at this
                exact this.symm
              · rw [if_neg hq, if_neg (by simpa using hq)]
                exact hT x
            · intro hti j hlt hj2 hL
              obtain ⟨oj, hoj⟩ := osome j hj2
              obtain ⟨b, hb⟩ := bget j hj2
              rcases P1 i j o oj b ho hoj hlt hb with hbit | hno
              · exact (behind j b hlt hj2 hL hb hbit).elim
              · have hdj : dd j = oj.dst := by simp [dd, hoj]
                rw [hdi] at hti
                rw [hdj]
                cases hq : (oj.dst == some x)
                · rfl
                · exact absurd (eq_of_beq hq) ((Oper.apart_spec hno).2.1 x (eq_of_beq hti))
      refine key ops.size (Array.replicate ops.size false) a _ ρ s.h A (by simp) (by simp) (Ren.le_refl _) (r.same (fun _ => rfl) rfl rfl rfl) hA ?_ ?_ ?_
      · intro j o ho hL
        have := olt ho
        simp [this] at hL
      · intro x
        rw [mix_high (m := 0) (Nat.zero_le _) fun j _ h2 hL => by simp [h2] at hL]
        show _ = HH x 0
        simp only [HH, a1]
      · intro x
        rw [mix_high (m := 0) (Nat.zero_le _) fun j _ h2 hL => by simp [h2] at hL]
        show _ = TT x 0
        simp only [TT, a2]
end
end Go.Rx
