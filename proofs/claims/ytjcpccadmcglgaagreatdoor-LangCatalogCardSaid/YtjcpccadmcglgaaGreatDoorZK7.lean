/- A struct in memory as a whole: loads and stores of all its cells, as the walk meets them; . -/
import Derived.Test.YtjcpccadmcglgaaGreatDoorZK2
import Derived.Deep.WholeRow
import Derived.Deep.MidRow
set_option linter.unusedVariables false
set_option linter.unusedSimpArgs false
set_option maxRecDepth 100000
set_option maxHeartbeats 64000000
namespace Go.Proofs.YtjcpccadmcglgaaGreatDoor
section
open Go.RowKit
theorem box_load {P:Program} {w:World} {g:Nat} {cs:Array Value} {T:TypeId} {fr:Nat × Nat} {n:Nat} (hg:w.heap[g]? = some (.cells cs T fr)) (hn:cs.size=n):(loadCellsFrom ⟨g,0,none⟩ 0 n #[]).run P w=.ok cs w:=by
 subst hn
 have:=run_loadCells_list (P:=P) w ⟨g,0,none⟩ cs.toList (fun j v hv=>by
  have hadd:(⟨g,0,none⟩:Addr).add j=⟨g,j,none⟩:=by unfold Addr.add;split <;> simp_all
  rw [hadd,cell_of_row _ _ j cs T fr hg]
  simpa using hv)
 simpa [loadCells] using this
theorem box_store {P:Program} {w:World} {g:Nat} {old cs:Array Value} {T:TypeId} (hg:w.heap[g]? = some (.cells old T (0,0))) (ho:old.size=cs.size) (h1:cs.all (·.oneCell')=true) :
 (storeCells ⟨g,0,none⟩ cs.toList 0).run P w=.ok () (w.setRow g cs)/\(w.setRow g cs).heap[g]? = some (.cells cs T (0,0))/\w.grownBy (w.setRow g cs) (some g):=by
 have:=run_storeCells_from (P:=P) g T cs.toList 0 old w hg (by simp;omega) (fun v hv=>(Array.all_eq_true_iff_forall_mem.1 h1) v (by simpa using hv))
 refine ⟨?_,setRow_heap w g old cs T (0,0) hg,rfl,rfl,rfl,by simp [World.setRow],fun k _ hk=>setRow_other w g k cs fun e=>hk (by rw [e])⟩
 simpa [List.take,ho] using this
end
section
open Go.RowKit
theorem box_load_part {P:Program} {w:World} {g:Nat} {cs V:Array Value} {T:TypeId} {fr:Nat × Nat} {n:Nat} (hg:w.heap[g]? = some (.cells cs T fr)) (hV:∀ (j:Nat) (v:Value),V[j]? = some v->cs[j]? = some v) (hn:V.size=n):(loadCellsFrom ⟨g,0,none⟩ 0 n #[]).run P w=.ok V w:=by
 subst hn
 have:=run_loadCells_list (P:=P) w ⟨g,0,none⟩ V.toList (fun j v hv=>by
  have hadd:(⟨g,0,none⟩:Addr).add j=⟨g,j,none⟩:=by unfold Addr.add;split <;> simp_all
  rw [hadd,cell_of_row _ _ j cs T fr hg]
  exact hV j v (by simpa using hv))
 simpa [loadCells] using this
end
end Go.Proofs.YtjcpccadmcglgaaGreatDoor
