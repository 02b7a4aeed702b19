/- What the texts of this seat lean on: cells of a block; what stays known when memory is mad. -/
import Derived.Test.YtieojjngeibnmaaGreatDoorZB2
import Derived.Test.YtieojjngeibnmaaGreatDoorZB4
import Derived.Deep.DeepCutAuto
import Derived.Deep.CutBlock
import Derived.Deep.CutRange
set_option linter.unusedVariables false
set_option linter.unusedSimpArgs false
set_option maxRecDepth 100000
set_option maxHeartbeats 64000000
namespace Go.Proofs.YtieojjngeibnmaaGreatDoor
section
open Go.RowKit
theorem cells_of {w:World} {b:Nat} {cs:Array Value} {T:TypeId} {fz:Nat × Nat} (h:w.heap[b]? = some (.cells cs T fz)) (j:Nat):w.cell? ⟨b,j,none⟩=cs[j]? := by
 simp [World.cell?,h]
theorem free_of {w:World} {b:Nat} {cs:Array Value} {T:TypeId} (h:w.heap[b]? = some (.cells cs T (0,0))) (j:Nat):w.frozen? ⟨b,j,none⟩=false:=by
 simp [World.frozen?,h]
structure Kp (F:World->Prop) (w:World):Prop where
 st:Stable F
 h:F w
end
end Go.Proofs.YtieojjngeibnmaaGreatDoor
