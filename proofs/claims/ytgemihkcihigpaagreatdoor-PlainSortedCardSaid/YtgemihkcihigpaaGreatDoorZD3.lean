/- slices.EqualFunc: two slices of one length whose elements a function finds equal, pair by . -/
import Derived.Test.YtgemihkcihigpaaGreatDoorZB21
set_option linter.unusedVariables false
set_option linter.unusedSimpArgs false
namespace Go.Proofs.YtgemihkcihigpaaGreatDoor
open Go.Lib (hid)
section
open Go.RowKit
def allN (p : Nat -> Bool) (n : Nat) : Bool := (List.range n).all p
theorem allN_hit {p : Nat -> Bool} {n : Nat} (h : ∀ t, t < n -> p t = true) : allN p n = true := by
 unfold allN
 rw [List.all_eq_true]
 exact fun t ht => h t (List.mem_range.1 ht)
theorem allN_miss {p : Nat -> Bool} {n k : Nat} (hk : k < n) (h : p k = false) : allN p n = false := by
 unfold allN
 rw [List.all_eq_false]
 exact ⟨k, List.mem_range.2 hk, by rw [h]; simp⟩
set_option maxRecDepth 100000 in
set_option maxHeartbeats 4000000 in
theorem eqf_val {a a' : Option Addr} {n m c c' g : Nat} {cb : Array Value} {x0 : Nat -> Int} {x1 : Nat -> Int} {x2 : Nat -> ByteArray} {y0 : Nat -> Int} {y1 : Nat -> Int} {y2 : Nat -> ByteArray} (p : Nat -> Bool) {w : World} (eg : ∀ args w, (callFunc g args).run Tryz.prog w = .ok (.enter g args) w) (hn : n <= 140737488355328) (hm : m <= 140737488355328)
 (ha : 0 < n -> ∃ b off, a = some ⟨b, off, none⟩ /\ b < w.heap.size /\ ∀ t, t < n -> w.cell? ⟨b, off + t * 3, none⟩ = some (.int .i64 (x0 t)) /\ w.cell? ⟨b, off + t * 3 + 1, none⟩ = some (.int .i64 (x1 t)) /\ w.cell? ⟨b, off + t * 3 + 2, none⟩ = some (.string (x2 t)))
 (hb : 0 < m -> ∃ b off, a' = some ⟨b, off, none⟩ /\ b < w.heap.size /\ ∀ t, t < m -> w.cell? ⟨b, off + t * 3, none⟩ = some (.int .i64 (y0 t)) /\ w.cell? ⟨b, off + t * 3 + 1, none⟩ = some (.int .i64 (y1 t)) /\ w.cell? ⟨b, off + t * 3 + 2, none⟩ = some (.string (y2 t)))
 (hp : n = m -> ∀ t, t < n -> ∀ w1, Below w.heap.size w w1 -> Calls Tryz.prog g (#[.agg #[.int .i64 (x0 t), .int .i64 (x1 t), .string (x2 t)], .agg #[.int .i64 (y0 t), .int .i64 (y1 t), .string (y2 t)]] ++ cb) w1 fun e w2 => e = .returned (.bool (p t)) /\ Below w1.heap.size w1 w2) :
 Calls Tryz.prog 120 #[.slice a n c, .slice a' m c', .func (.func g) #[] cb] w fun e w' => e = .returned (.bool (decide (n = m) && allN p n)) /\ Below w.heap.size w w' := by
 have HX := hid ha
 have HY := hid hb
 have HP := hid hp
 clear ha hb hp
 by_cases hne : n = m
 · subst hne
   go_enter Tryz.func120, Tryz.ntmps120
   go_wp2_with fail
   go_loopw [17] (fun i wr => ∃ k : Nat, k <= n /\ i = .int .i64 k /\ Hid (∀ t, t < k -> p t = true) /\ Hid (Below w.heap.size w wr)) (fun i _ => n - (intOf i).toNat)
   case atStart => exact ⟨0, Nat.zero_le _, rfl, (fun t ht => by omega), Below.refl _ _⟩
   case round =>
   obtain ⟨k, hk, rfl, HF, HB⟩ := hrel
   by_cases hlt : k < n
   · obtain ⟨b, off, rfl, hbl, hcs⟩ := HX.out (by omega)
     obtain ⟨b', off', rfl, hbl', hcs'⟩ := HY.out (by omega)
     have ⟨h0, h1, h2⟩ := hcs k hlt
     have ⟨g0, g1, g2⟩ := hcs' k hlt
     have c0 := (HB.out.cell (p := ⟨b, off + k * 3, none⟩) hbl).trans h0
     have c1 := (HB.out.cell (p := ⟨b, off + k * 3 + 1, none⟩) hbl).trans h1
     have c2 := (HB.out.cell (p := ⟨b, off + k * 3 + 2, none⟩) hbl).trans h2
     have d0 := (HB.out.cell (p := ⟨b', off' + k * 3, none⟩) hbl').trans g0
     have d1 := (HB.out.cell (p := ⟨b', off' + k * 3 + 1, none⟩) hbl').trans g1
     have d2 := (HB.out.cell (p := ⟨b', off' + k * 3 + 2, none⟩) hbl').trans g2
     have hl1 : b < wr.heap.size := Nat.lt_of_lt_of_le hbl HB.out.size
     have hl2 : b' < wr.heap.size := Nat.lt_of_lt_of_le hbl' HB.out.size
     have con := HP.out (by trivial) k hlt
     clear hcs hcs' h0 g0 h1 g1 h2 g2
     generalize hpk : p k = f at con
     have HPK := hid hpk
     clear hpk
     go_wp2_with fail
     refine (con _ ?hb2).mono ?_
     case hb2 => first | exact HB.out | exact (HB.out.alloc HB.out.size _).alloc (Nat.le_trans HB.out.size (by show _ <= (Array.push _ _).size; simp)) _
     rintro e w2 ⟨rfl, b2⟩
     have B2 := hid (show Below w.heap.size w w2 from by
      first
       | exact HB.out.trans (b2.mono HB.out.size)
       | exact ((HB.out.alloc HB.out.size _).alloc (Nat.le_trans HB.out.size (by show _ <= (Array.push _ _).size; simp)) _).trans (b2.mono (Nat.le_trans HB.out.size (by show _ <= (Array.push (Array.push _ _) _).size; simp; omega))))
     clear b2 con c0 d0 c1 d1 c2 d2 hl1 hl2
     cases f
     · have HE := hid (allN_miss hlt HPK.out)
       go_wp2_with fail
       go_ret
       exact ⟨by rw [HE.out]; rfl, B2.out⟩
     · go_wp2_with fail
       go_roundw
       case rel => exact ⟨k + 1, by omega, by go_num, (fun t ht => by
        rcases Nat.lt_or_eq_of_le (Nat.le_of_lt_succ ht) with h | rfl
        · exact HF.out t h
        · exact HPK.out), B2⟩
       case measure => simp [intOf]; omega
   · obtain rfl : k = n := by omega
     have HE := hid (allN_hit HF.out)
     go_wp2_with fail
     go_ret
     exact ⟨by rw [HE.out]; rfl, HB.out⟩
 · have d1 : decide (n = m) = false := decide_eq_false hne
   have HE := hid (show (decide (n = m) && allN p n) = false by rw [d1]; rfl)
   go_enter Tryz.func120, Tryz.ntmps120
   go_wp2_with fail
   go_ret
   exact ⟨by rw [HE.out]; rfl, Below.refl _ _⟩
set_option maxRecDepth 100000 in
set_option maxHeartbeats 4000000 in
theorem eqf_row {a a' : Option Addr} {n m c c' g : Nat} {cb : Array Value} {x0 : Nat -> Value} {y0 : Nat -> Value} (p : Nat -> Bool) {w : World} (eg : ∀ args w, (callFunc g args).run Tryz.prog w = .ok (.enter g args) w) (hn : n <= 140737488355328) (hm : m <= 140737488355328)
 (ha : 0 < n -> ∃ b off, a = some ⟨b, off, none⟩ /\ b < w.heap.size /\ ∀ t, t < n -> w.cell? ⟨b, off + t, none⟩ = some (x0 t))
 (hb : 0 < m -> ∃ b off, a' = some ⟨b, off, none⟩ /\ b < w.heap.size /\ ∀ t, t < m -> w.cell? ⟨b, off + t, none⟩ = some (y0 t))
 (hp : n = m -> ∀ t, t < n -> ∀ w1, Below w.heap.size w w1 -> Calls Tryz.prog g (#[x0 t, y0 t] ++ cb) w1 fun e w2 => e = .returned (.bool (p t)) /\ Below w1.heap.size w1 w2) :
 Calls Tryz.prog 63 #[.slice a n c, .slice a' m c', .func (.func g) #[] cb] w fun e w' => e = .returned (.bool (decide (n = m) && allN p n)) /\ Below w.heap.size w w' := by
 have HX := hid ha
 have HY := hid hb
 have HP := hid hp
 clear ha hb hp
 by_cases hne : n = m
 · subst hne
   go_enter Tryz.func63, Tryz.ntmps63
   go_wp2_with fail
   go_loopw [17] (fun i wr => ∃ k : Nat, k <= n /\ i = .int .i64 k /\ Hid (∀ t, t < k -> p t = true) /\ Hid (Below w.heap.size w wr)) (fun i _ => n - (intOf i).toNat)
   case atStart => exact ⟨0, Nat.zero_le _, rfl, (fun t ht => by omega), Below.refl _ _⟩
   case round =>
   obtain ⟨k, hk, rfl, HF, HB⟩ := hrel
   by_cases hlt : k < n
   · obtain ⟨b, off, rfl, hbl, hcs⟩ := HX.out (by omega)
     obtain ⟨b', off', rfl, hbl', hcs'⟩ := HY.out (by omega)
     have h0 := hcs k hlt
     have g0 := hcs' k hlt
     have c0 := (HB.out.cell (p := ⟨b, off + k, none⟩) hbl).trans h0
     have d0 := (HB.out.cell (p := ⟨b', off' + k, none⟩) hbl').trans g0
     have hl1 : b < wr.heap.size := Nat.lt_of_lt_of_le hbl HB.out.size
     have hl2 : b' < wr.heap.size := Nat.lt_of_lt_of_le hbl' HB.out.size
     have con := HP.out (by trivial) k hlt
     clear hcs hcs' h0 g0
     generalize hpk : p k = f at con
     have HPK := hid hpk
     clear hpk
     go_wp2_with fail
     refine (con _ ?hb2).mono ?_
     case hb2 => first | exact HB.out | exact (HB.out.alloc HB.out.size _).alloc (Nat.le_trans HB.out.size (by show _ <= (Array.push _ _).size; simp)) _
     rintro e w2 ⟨rfl, b2⟩
     have B2 := hid (show Below w.heap.size w w2 from by
      first
       | exact HB.out.trans (b2.mono HB.out.size)
       | exact ((HB.out.alloc HB.out.size _).alloc (Nat.le_trans HB.out.size (by show _ <= (Array.push _ _).size; simp)) _).trans (b2.mono (Nat.le_trans HB.out.size (by show _ <= (Array.push (Array.push _ _) _).size; simp; omega))))
     clear b2 con c0 d0 hl1 hl2
     cases f
     · have HE := hid (allN_miss hlt HPK.out)
       go_wp2_with fail
       go_ret
       exact ⟨by rw [HE.out]; rfl, B2.out⟩
     · go_wp2_with fail
       go_roundw
       case rel => exact ⟨k + 1, by omega, by go_num, (fun t ht => by
        rcases Nat.lt_or_eq_of_le (Nat.le_of_lt_succ ht) with h | rfl
        · exact HF.out t h
        · exact HPK.out), B2⟩
       case measure => simp [intOf]; omega
   · obtain rfl : k = n := by omega
     have HE := hid (allN_hit HF.out)
     go_wp2_with fail
     go_ret
     exact ⟨by rw [HE.out]; rfl, HB.out⟩
 · have d1 : decide (n = m) = false := decide_eq_false hne
   have HE := hid (show (decide (n = m) && allN p n) = false by rw [d1]; rfl)
   go_enter Tryz.func63, Tryz.ntmps63
   go_wp2_with fail
   go_ret
   exact ⟨by rw [HE.out]; rfl, Below.refl _ _⟩
end
section
open Go.RowKit
def sameV (x y : Val) : Bool := decide (x.kind = y.kind) && decide (cmpV x y = 0)
set_option maxRecDepth 100000 in
set_option maxHeartbeats 4000000 in
theorem same1_any (x y : Val) (w : World) (hK : KindsAt w) :
 Calls Tryz.prog 121 #[.agg #[.int .i64 x.kind, .int .i64 x.n, .string x.s], .agg #[.int .i64 y.kind, .int .i64 y.n, .string y.s]] w fun e w' => e = .returned (.bool (sameV x y)) /\ Below w.heap.size w w' := by
 obtain ⟨xk, xn, xs⟩ := x
 obtain ⟨yk, yn, ys⟩ := y
 simp only
 obtain ⟨W1, hW1⟩ : ∃ W1, w.alloc (.cells #[.int .i64 xk, .int .i64 xn, .string xs] 55) = W1 := ⟨_, rfl⟩
 obtain ⟨W2, hW2⟩ : ∃ W2, W1.alloc (.cells #[.int .i64 yk, .int .i64 yn, .string ys] 55) = W2 := ⟨_, rfl⟩
 have hb1 : Below w.heap.size w W1 := by rw [<- hW1]; exact (b0R).alloc (Nat.le_refl _) _
 have h1s : W1.heap.size = w.heap.size + 1 := by rw [<- hW1]; exact Array.size_push _
 have hb2 : Below w.heap.size w W2 := by rw [<- hW2]; exact hb1.alloc (by omega) _
 have hx : W1.heap[w.heap.size]? = some (.cells #[.int .i64 xk, .int .i64 xn, .string xs] 55 (0, 0)) := by rw [<- hW1]; exact heap_alloc_new _ _
 have hb12 : Below W1.heap.size W1 W2 := by rw [<- hW2]; exact (b0R).alloc (Nat.le_refl _) _
 have hx2 := (hb12.block _ (lt_of_block hx)).trans hx
 have hy2 : W2.heap[w.heap.size + 1]? = some (.cells #[.int .i64 yk, .int .i64 yn, .string ys] 55 (0, 0)) := by rw [<- hW2, <- h1s]; exact heap_alloc_new _ _
 have x0 := cells_of hx2 0
 have x1 := cells_of hx2 1
 have x2 := cells_of hx2 2
 have y0 := cells_of hy2 0
 have y1 := cells_of hy2 1
 have y2 := cells_of hy2 2
 simp only [gT, gZ, gS] at x0 x1 x2 y0 y1 y2
 have con : Calls Tryz.prog 24 #[.agg #[.int .i64 xk, .int .i64 xn, .string xs], .agg #[.int .i64 yk, .int .i64 yn, .string ys]] W2 fun e w' => e = .returned (.int .i64 (cmpV ⟨xk, xn, xs⟩ ⟨yk, yn, ys⟩)) /\ Below W2.heap.size W2 w' := vcmp_any ⟨xk, xn, xs⟩ ⟨yk, yn, ys⟩ W2 (hK.below hb2)
 have HF := hid (show sameV ⟨xk, xn, xs⟩ ⟨yk, yn, ys⟩ = (decide (xk = yk) && decide (cmpV ⟨xk, xn, xs⟩ ⟨yk, yn, ys⟩ = 0)) from rfl)
 generalize cmpV _ _ = z at con HF
 have B2 := hid hb2
 clear hK hb1 hb2 hb12 hx hx2 hy2
 by_cases hk : xk = yk
 · subst hk
   by_cases hz : z = 0
   · have HE := hid (show sameV ⟨xk, xn, xs⟩ ⟨xk, yn, ys⟩ = true by rw [HF.out, hz]; simp)
     subst hz
     go_enter Tryz.func121, Tryz.ntmps121
     go_upto_region 1 with (fail)
     clear hW1 hW2 h1s
     go_wp2_with fail
     refine con.mono ?_
     rintro e w2 ⟨rfl, b2⟩
     have B3 := hid (B2.out.trans (b2.mono B2.out.size))
     clear b2 con
     go_wp2_with fail
     go_ret
     exact ⟨by rw [HE.out]; rfl, B3.out⟩
   · have HE := hid (show sameV ⟨xk, xn, xs⟩ ⟨xk, yn, ys⟩ = false by rw [HF.out]; simp [hz])
     have d1 : (z == 0) = false := by simpa using hz
     go_enter Tryz.func121, Tryz.ntmps121
     go_upto_region 1 with (fail)
     clear hW1 hW2 h1s
     go_wp2_with fail
     refine con.mono ?_
     rintro e w2 ⟨rfl, b2⟩
     have B3 := hid (B2.out.trans (b2.mono B2.out.size))
     clear b2 con
     go_wp2_with fail
     go_ret
     exact ⟨by rw [HE.out]; rfl, B3.out⟩
 · have HE := hid (show sameV ⟨xk, xn, xs⟩ ⟨yk, yn, ys⟩ = false by rw [HF.out]; simp [hk])
   have d1 : (xk == yk) = false := by simpa using hk
   clear con
   go_enter Tryz.func121, Tryz.ntmps121
   go_upto_region 1 with (fail)
   clear hW1 hW2 h1s
   go_wp2_with fail
   go_ret
   exact ⟨by rw [HE.out]; rfl, B2.out⟩
def vAt (L : List Val) (t : Nat) : Val := (L[t]?).getD val0
theorem vAt_eq {L : List Val} {t : Nat} (h : t < L.length) : vAt L t = L[t] := by
 unfold vAt
 rw [List.getElem?_eq_getElem h]; rfl
def sameR (x y : List Val) : Bool := decide (x.length = y.length) && allN (fun t => sameV (vAt x t) (vAt y t)) x.length
theorem vals_at {p : Nat -> Prop} {w : World} {a : Option Addr} {c : Nat} {L : List Val} (h : SlV valR p w (.slice a L.length c) L) : 0 < L.length -> ∃ b off, a = some ⟨b, off, none⟩ /\ b < w.heap.size /\ ∀ t, t < L.length -> w.cell? ⟨b, off + t * 3, none⟩ = some (.int .i64 (vAt L t).kind) /\ w.cell? ⟨b, off + t * 3 + 1, none⟩ = some (.int .i64 (vAt L t).n) /\ w.cell? ⟨b, off + t * 3 + 2, none⟩ = some (.string (vAt L t).s) := by
 intro h0
 obtain ⟨_, _, _, hrow⟩ := h.row
 obtain ⟨b, off, rfl, _, hbl⟩ := hrow.addr (by intro e; rw [e] at h0; cases h0)
 refine ⟨b, off, rfl, hbl, fun t ht => ?_⟩
 rw [vAt_eq ht]
 exact hrow.val t ht
set_option maxHeartbeats 2000000 in
theorem same_any {p q : Nat -> Prop} {a a' : Option Addr} {c c' : Nat} {x y : List Val} {w : World} (hx : SlV valR p w (.slice a x.length c) x) (hy : SlV valR q w (.slice a' y.length c') y) (hK : KindsAt w) :
 Calls Tryz.prog 64 #[.slice a x.length c, .slice a' y.length c'] w fun e w' => e = .returned (.bool (sameR x y)) /\ Below w.heap.size w w' := by
 have con := eqf_val (c := c) (c' := c') (cb := #[]) (fun t => sameV (vAt x t) (vAt y t)) (enters_of Tryz.func121 (by kernel_rfl) rfl) hx.row.2.2.1 hy.row.2.2.1 (vals_at hx) (vals_at hy) (fun _ t _ w1 b1 => same1_any (vAt x t) (vAt y t) w1 (hK.below b1))
 have HF := hid (show sameR x y = (decide (x.length = y.length) && allN (fun t => sameV (vAt x t) (vAt y t)) x.length) from rfl)
 generalize (decide (x.length = y.length) && allN (fun t => sameV (vAt x t) (vAt y t)) x.length) = f at con HF
 clear hx hy hK
 go_enter Tryz.func64, Tryz.ntmps64
 go_wp2_with fail
 refine con.mono ?_
 rintro e w2 ⟨rfl, b2⟩
 have B2 := hid b2
 clear b2 con
 go_wp2_with fail
 go_ret
 exact ⟨by rw [HF.out]; rfl, B2.out⟩
end
section
open Go.RowKit
def sameRows (x y : List (List Val)) : Bool := decide (x.length = y.length) && allN (fun t => sameR (rAt x t) (rAt y t)) x.length
theorem rows_at {p : Nat -> Prop} {w : World} {a : Option Addr} {c : Nat} {L : List (List Val)} (h : SlV rowR p w (.slice a L.length c) L) : ∃ f : Nat -> Value, (0 < L.length -> ∃ b off, a = some ⟨b, off, none⟩ /\ b < w.heap.size /\ ∀ t, t < L.length -> w.cell? ⟨b, off + t, none⟩ = some (f t)) /\ ∀ t, t < L.length -> ∃ ra rc, f t = .slice ra (rAt L t).length rc /\ SlV valR p w (.slice ra (rAt L t).length rc) (rAt L t) := by
 obtain ⟨_, _, _, hrow⟩ := h.row
 obtain ⟨ins, h1, h2, h3⟩ := rows_raw hrow
 refine ⟨fun t => (ins[t]?).getD (.bool false), fun h0 => ?_, fun t ht => ?_⟩
 · obtain ⟨b, off, rfl, _, hbl⟩ := hrow.addr (by intro e; rw [e] at h0; cases h0)
   refine ⟨b, off, rfl, hbl, fun t ht => ?_⟩
   have hi : t < ins.length := by omega
   have := h2 ⟨b, off, none⟩ rfl t ins[t] (List.getElem?_eq_getElem hi)
   rw [addr_add] at this
   simpa [List.getElem?_eq_getElem hi] using this
 · have hi : t < ins.length := by omega
   obtain ⟨ra, rc, e, hs⟩ := h3 t ht hi
   rw [rAt_eq ht]
   exact ⟨ra, rc, by simp [List.getElem?_eq_getElem hi, e], hs⟩
theorem sameRows_any {p q : Nat -> Prop} {a a' : Option Addr} {c c' : Nat} {x y : List (List Val)} {w : World} (hx : SlV rowR p w (.slice a x.length c) x) (hy : SlV rowR q w (.slice a' y.length c') y) (hK : KindsAt w) :
 Calls Tryz.prog 63 #[.slice a x.length c, .slice a' y.length c', .func (.func 64) #[] #[]] w fun e w' => e = .returned (.bool (sameRows x y)) /\ Below w.heap.size w w' := by
 obtain ⟨f, f1, f2⟩ := rows_at hx
 obtain ⟨g, g1, g2⟩ := rows_at hy
 refine eqf_row (x0 := f) (y0 := g) (cb := #[]) (fun t => sameR (rAt x t) (rAt y t)) (enters_of Tryz.func64 (by kernel_rfl) rfl) hx.row.2.2.1 hy.row.2.2.1 f1 g1 (fun e t ht w1 b1 => ?_)
 obtain ⟨ra, rc, e1, s1⟩ := f2 t ht
 obtain ⟨rb, rd, e2, s2⟩ := g2 t (by omega)
 rw [e1, e2]
 exact same_any (s1.below b1) (s2.below b1) (hK.below b1)
end
section
open Go.RowKit
def sameA (x y : AnsV) : Bool := decide (x.err = y.err) && decide (x.n = y.n) && sameRows x.rows y.rows
set_option maxRecDepth 100000 in
set_option maxHeartbeats 4000000 in
theorem sameA_any {p q : Nat -> Prop} {a a' : Option Addr} {c c' : Nat} {ex ey nx ny : Int} {x y : List (List Val)} {w : World} (hx : SlV rowR p w (.slice a x.length c) x) (hy : SlV rowR q w (.slice a' y.length c') y) (hK : KindsAt w) :
 Calls Tryz.prog 29 #[.agg #[.int .i64 ex, .slice a x.length c, .int .i64 nx], .agg #[.int .i64 ey, .slice a' y.length c', .int .i64 ny]] w fun e w' => e = .returned (.bool (sameA ⟨ex, x, nx⟩ ⟨ey, y, ny⟩)) /\ Below w.heap.size w w' := by
 obtain ⟨W1, hW1⟩ : ∃ W1, w.alloc (.cells #[.int .i64 ex, .slice a x.length c, .int .i64 nx] 43) = W1 := ⟨_, rfl⟩
 obtain ⟨W2, hW2⟩ : ∃ W2, W1.alloc (.cells #[.int .i64 ey, .slice a' y.length c', .int .i64 ny] 43) = W2 := ⟨_, rfl⟩
 have hb1 : Below w.heap.size w W1 := by rw [<- hW1]; exact (b0R).alloc (Nat.le_refl _) _
 have h1s : W1.heap.size = w.heap.size + 1 := by rw [<- hW1]; exact Array.size_push _
 have hb2 : Below w.heap.size w W2 := by rw [<- hW2]; exact hb1.alloc (by omega) _
 have hp : W1.heap[w.heap.size]? = some (.cells #[.int .i64 ex, .slice a x.length c, .int .i64 nx] 43 (0, 0)) := by rw [<- hW1]; exact heap_alloc_new _ _
 have hb12 : Below W1.heap.size W1 W2 := by rw [<- hW2]; exact (b0R).alloc (Nat.le_refl _) _
 have hp2 := (hb12.block _ (lt_of_block hp)).trans hp
 have hq2 : W2.heap[w.heap.size + 1]? = some (.cells #[.int .i64 ey, .slice a' y.length c', .int .i64 ny] 43 (0, 0)) := by rw [<- hW2, <- h1s]; exact heap_alloc_new _ _
 have x0 := cells_of hp2 0
 have x1 := cells_of hp2 1
 have x2 := cells_of hp2 2
 have y0 := cells_of hq2 0
 have y1 := cells_of hq2 1
 have y2 := cells_of hq2 2
 simp only [gT, gZ, gS] at x0 x1 x2 y0 y1 y2
 have con := sameRows_any (hx.below hb2) (hy.below hb2) (hK.below hb2)
 have HF := hid (show sameA ⟨ex, x, nx⟩ ⟨ey, y, ny⟩ = (decide (ex = ey) && decide (nx = ny) && sameRows x y) from rfl)
 generalize sameRows x y = f at con HF
 have B2 := hid hb2
 clear hx hy hK hb1 hb2 hb12 hp hp2 hq2
 by_cases he : ex = ey
 · subst he
   by_cases hn : nx = ny
   · have HE := hid (show sameA ⟨ex, x, nx⟩ ⟨ex, y, ny⟩ = f by rw [HF.out, hn]; simp)
     subst hn
     go_enter Tryz.func29, Tryz.ntmps29
     go_upto_region 1 with (fail)
     clear hW1 hW2 h1s
     go_wp2_with fail
     refine con.mono ?_
     rintro e w2 ⟨rfl, b2⟩
     have B3 := hid (B2.out.trans (b2.mono B2.out.size))
     clear b2 con
     go_wp2_with fail
     go_ret
     exact ⟨by rw [HE.out]; rfl, B3.out⟩
   · have HE := hid (show sameA ⟨ex, x, nx⟩ ⟨ex, y, ny⟩ = false by rw [HF.out]; simp [hn])
     have d1 : (nx == ny) = false := by simpa using hn
     clear con
     go_enter Tryz.func29, Tryz.ntmps29
     go_upto_region 1 with (fail)
     clear hW1 hW2 h1s
     go_wp2_with fail
     go_ret
     exact ⟨by rw [HE.out]; rfl, B2.out⟩
 · have HE := hid (show sameA ⟨ex, x, nx⟩ ⟨ey, y, ny⟩ = false by rw [HF.out]; simp [he])
   have d1 : (ex == ey) = false := by simpa using he
   clear con
   go_enter Tryz.func29, Tryz.ntmps29
   go_upto_region 1 with (fail)
   clear hW1 hW2 h1s
   go_wp2_with fail
   go_ret
   exact ⟨by rw [HE.out]; rfl, B2.out⟩
end
end Go.Proofs.YtgemihkcihigpaaGreatDoor
