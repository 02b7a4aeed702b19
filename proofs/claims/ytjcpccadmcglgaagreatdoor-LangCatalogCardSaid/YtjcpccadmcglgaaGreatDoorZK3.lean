/- A region that draws its order, walked once in the order of its text, in a class of worlds:. -/
import Derived.WalkKit
import Derived.Handy
import Derived.Lib.Hide
import Derived.Deep.QuietTactic
import Derived.BigQuiet
set_option linter.unusedVariables false
set_option linter.unusedSimpArgs false
set_option maxRecDepth 100000
set_option maxHeartbeats 64000000
namespace Go.Proofs.YtjcpccadmcglgaaGreatDoor
section
open Go.RowKit
structure Wld (Good:World->Prop) where
 val:World
 good:Good val
theorem wp_region_class {P:Program} {id:Nat} {Q:Exit->Act->World->Prop} {a:Act} {w:World} {l:List Oper} (Good:World->Prop) (hm:P.follows .mixedOrders=true) (hB:Region.lexB .any l.toArray=true) (hg:Good w.drew)
 (h:Nonempty (Wld Good)->wpQuiet P l.toArray (fun w'=>∃ x:Wld Good,w'=x.val) (fun a'=>∀ w',Good w'->Q .normal a' w') l a):(Code.region id l.toArray true).wp P Q a w:=by
 have h1:=h ⟨⟨_,hg⟩⟩
 refine wp_region_quiet (C:=fun w'=>∃ x:Wld Good,w'=x.val) hm hB ⟨⟨_,hg⟩,rfl⟩ ?_
 have mono:∀ (k:List Oper) (a:Act),wpQuiet P l.toArray (fun w'=>∃ x:Wld Good,w'=x.val) (fun a'=>∀ w',Good w'->Q .normal a' w') k a ->
  wpQuiet P l.toArray (fun w'=>∃ x:Wld Good,w'=x.val) (fun a'=>∀ w',(∃ x:Wld Good,w'=x.val)->Q .normal a' w') k a:=by
  intro k
  induction k with
  | nil=>intro a h w' ⟨x,hx⟩;rw [hx];exact h _ x.good
  | cons o k ih =>
   intro a h
   simp only [wpQuiet] at h ⊢
   split
   · rename_i hw
     rw [if_pos hw] at h
     exact Oper.quiet_mono ih h
   · rename_i hw
     rw [if_neg hw] at h
     exact ih _ h
 simpa using mono l a h1
theorem class_below {B:Nat} {w0:World} (x:Wld (Below B w0)) {w1:World} (h:Below x.val.heap.size x.val w1) (hB:B<=w0.heap.size):∃ y:Wld (Below B w0),w1=y.val :=
 ⟨⟨w1,x.good.trans (h.mono (Nat.le_trans hB x.good.size))⟩,rfl⟩
end
end Go.Proofs.YtjcpccadmcglgaaGreatDoor
