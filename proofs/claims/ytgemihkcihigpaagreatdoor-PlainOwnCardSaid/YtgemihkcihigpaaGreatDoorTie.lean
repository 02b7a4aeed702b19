/-
  DERIVED. GIVEN WITH THE SEED: THE PROGRAM's TIES (one call each: nine closed facts by the kernel) AND EACH ROW's TIE, after the 31st guide's Derived/Test/Toyas{Tie, Card}.lean. No idea stands in it: it is a product of the set-up. Laid BY PROGRAM, IN A SANDBOX (cutbox-door.mjs). By AI agents, Wed Nov 11 2026. No macro, syntax, notation, axiom, sorry.
-/
import Derived.Test.YtgemihkcihigpaaGreatDoorRows
import Derived.LaidByTextLater
import Derived.SevenTiedAt
import Derived.LaidSub
import Derived.LaidOnce
namespace Go.Proofs.YtgemihkcihigpaaGreatDoor
open Go
set_option maxRecDepth 100000
theorem seatTie1 : Tryz.prog.laidByTextLater [("vintner/value.kinds", Rows.laid_vintner_value_kinds)] [.funcs] true :=
  Program.laidByTextLater_by_one 14 8 2 (by kernel_rfl) (by kernel_rfl) (by kernel_rfl) (by kernel_rfl) (by kernel_rfl) (by kernel_rfl) (fun _ _ => by kernel_rfl)
theorem noOwnUnsafe : Tryz.pinned.checked.prog.headLifts.contains "ownunsafe" = false := by kernel_rfl
theorem tie : Tryz.prog.laidByTextLater [("vintner/value.kinds", Rows.laid_vintner_value_kinds)] [.funcs] true :=
  Program.laidByTextLater.sub seatTie1 ["vintner/value.kinds"] (by kernel_rfl) (by kernel_rfl)
theorem plainDoes_row_tie : Rows.plainDoesRow.laidByTextAt .later Tryz.pinned [.funcs] true :=
  OpenClaim.laidByTextAt_later rfl rfl tie noOwnUnsafe
theorem plainRaw_row_tie : Rows.plainRawRow.laidByTextAt .later Tryz.pinned [.funcs] true :=
  OpenClaim.laidByTextAt_later rfl rfl tie noOwnUnsafe
theorem plainParts_row_tie : Rows.plainPartsRow.laidByTextAt .later Tryz.pinned [.funcs] true :=
  OpenClaim.laidByTextAt_later rfl rfl tie noOwnUnsafe
theorem plainJoins_row_tie : Rows.plainJoinsRow.laidByTextAt .later Tryz.pinned [.funcs] true :=
  OpenClaim.laidByTextAt_later rfl rfl tie noOwnUnsafe
theorem plainAggregates_row_tie : Rows.plainAggregatesRow.laidByTextAt .later Tryz.pinned [.funcs] true :=
  OpenClaim.laidByTextAt_later rfl rfl tie noOwnUnsafe
theorem plainSorted_row_tie : Rows.plainSortedRow.laidByTextAt .later Tryz.pinned [.funcs] true :=
  OpenClaim.laidByTextAt_later rfl rfl tie noOwnUnsafe
theorem plainAlike_row_tie : Rows.plainAlikeRow.laidByTextAt .later Tryz.pinned [.funcs] true :=
  OpenClaim.laidByTextAt_later rfl rfl tie noOwnUnsafe
theorem plainChanges_row_tie : Rows.plainChangesRow.laidByTextAt .later Tryz.pinned [.funcs] true :=
  OpenClaim.laidByTextAt_later rfl rfl tie noOwnUnsafe
theorem plainOrders_row_tie : Rows.plainOrdersRow.laidByTextAt .later Tryz.pinned [.funcs] true :=
  OpenClaim.laidByTextAt_later rfl rfl tie noOwnUnsafe
theorem plainOwn_row_tie : Rows.plainOwnRow.laidByTextAt .later Tryz.pinned [.funcs] true :=
  OpenClaim.laidByTextAt_later rfl rfl tie noOwnUnsafe
theorem plainDoesUpto_row_tie : Rows.plainDoesUptoRow.laidByTextAt .later Tryz.pinned [.funcs] true :=
  OpenClaim.laidByTextAt_later rfl rfl tie noOwnUnsafe
theorem plainRawUpto_row_tie : Rows.plainRawUptoRow.laidByTextAt .later Tryz.pinned [.funcs] true :=
  OpenClaim.laidByTextAt_later rfl rfl tie noOwnUnsafe
theorem plainPartsUpto_row_tie : Rows.plainPartsUptoRow.laidByTextAt .later Tryz.pinned [.funcs] true :=
  OpenClaim.laidByTextAt_later rfl rfl tie noOwnUnsafe
theorem plainJoinsUpto_row_tie : Rows.plainJoinsUptoRow.laidByTextAt .later Tryz.pinned [.funcs] true :=
  OpenClaim.laidByTextAt_later rfl rfl tie noOwnUnsafe
theorem plainAggregatesUpto_row_tie : Rows.plainAggregatesUptoRow.laidByTextAt .later Tryz.pinned [.funcs] true :=
  OpenClaim.laidByTextAt_later rfl rfl tie noOwnUnsafe
theorem plainSortedUpto_row_tie : Rows.plainSortedUptoRow.laidByTextAt .later Tryz.pinned [.funcs] true :=
  OpenClaim.laidByTextAt_later rfl rfl tie noOwnUnsafe
theorem plainAlikeUpto_row_tie : Rows.plainAlikeUptoRow.laidByTextAt .later Tryz.pinned [.funcs] true :=
  OpenClaim.laidByTextAt_later rfl rfl tie noOwnUnsafe
theorem plainChangesUpto_row_tie : Rows.plainChangesUptoRow.laidByTextAt .later Tryz.pinned [.funcs] true :=
  OpenClaim.laidByTextAt_later rfl rfl tie noOwnUnsafe
theorem plainOrdersUpto_row_tie : Rows.plainOrdersUptoRow.laidByTextAt .later Tryz.pinned [.funcs] true :=
  OpenClaim.laidByTextAt_later rfl rfl tie noOwnUnsafe
theorem plainOwnUpto_row_tie : Rows.plainOwnUptoRow.laidByTextAt .later Tryz.pinned [.funcs] true :=
  OpenClaim.laidByTextAt_later rfl rfl tie noOwnUnsafe
end Go.Proofs.YtgemihkcihigpaaGreatDoor
