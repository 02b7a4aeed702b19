/- What the texts of this seat lean on: cells of a block; what stays known when memory is mad. -/
import Derived.Test.YtjcpccadmcglgaaGreatDoorZK2
import Derived.Test.YtjcpccadmcglgaaGreatDoorZK4
import Derived.Deep.DeepCutAuto
import Derived.Deep.CutBlock
import Derived.Deep.CutRange
set_option linter.unusedVariables false
set_option linter.unusedSimpArgs false
set_option maxRecDepth 100000
set_option maxHeartbeats 64000000
namespace Go.Proofs.YtjcpccadmcglgaaGreatDoor
section
open Go.RowKit
theorem cells_of {w:World} {b:Nat} {cs:Array Value} {T:TypeId} {fz:Nat × Nat} (h:w.heap[b]? = some (.cells cs T fz)) (j:Nat):w.cell? ⟨b,j,none⟩=cs[j]? := by
 simp [World.cell?,h]
theorem free_of {w:World} {b:Nat} {cs:Array Value} {T:TypeId} (h:w.heap[b]? = some (.cells cs T (0,0))) (j:Nat):w.frozen? ⟨b,j,none⟩=false:=by
 simp [World.frozen?,h]
structure Kp (F:World->Prop) (w:World):Prop where
 st:Stable F
 h:F w
theorem Kp.below {F:World->Prop} {w w':World} (k:Kp F w) (hb:Below w.heap.size w w'):Kp F w':=⟨k.st,k.st _ _ k.h hb⟩
theorem Kp.and {F G:World->Prop} {w:World} (k:Kp F w) (g:Kp G w):Kp (fun w=>F w/\G w) w:=⟨fun _ _ h hb=>⟨k.st _ _ h.1 hb,g.st _ _ h.2 hb⟩,k.h,g.h⟩
theorem kp_base (w0:World):Kp (Below w0.heap.size w0) w0:=⟨fun _ _ h hb=>h.trans (hb.mono h.size),Below.refl _ _⟩
theorem kp_block {w:World} {b:Nat} {o:Obj} (h:w.heap[b]? = some o):Kp (fun w=>w.heap[b]? = some o) w:=⟨fun _ _ h hb=>(hb.block _ (jB h)).trans h,h⟩
theorem kp_sl {α:Type} {R:Rep α} {p:Nat->Prop} {w:World} {v:Value} {L:List α} (h:SlV R p w v L):Kp (fun w=>SlV R p w v L) w:=⟨fun _ _ h hb=>h.below hb,h⟩
theorem kp_row {α:Type} {R:Rep α} {p:Nat->Prop} {w:World} {a:Option Addr} {L:List α} (h:RowAt R p w a L):Kp (fun w=>RowAt R p w a L) w:=⟨fun _ _ h hb=>h.below hb,h⟩
theorem kp_drewN {F:World->Prop} {w:World} (k:Kp F w) (n:Nat):Kp F (w.drewN n):=k.below (below_drewN b0R n)
theorem kp_alloc {F:World->Prop} {w:World} (k:Kp F w) (o:Obj):Kp F (w.alloc o):=k.below ((b0R).alloc (jR _) o)
end
end Go.Proofs.YtjcpccadmcglgaaGreatDoor
