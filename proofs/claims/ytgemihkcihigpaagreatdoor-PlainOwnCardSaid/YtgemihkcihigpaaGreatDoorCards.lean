/-
  DERIVED. GIVEN WITH THE SEED: THE CARDS: each row of YtgemihkcihigpaaGreatDoorRows.lean that lists a variable, with what it lists TIED to the program's text (the seventh form; the later family's looks); each row that meets fmt, with fmt's text TOLD by the authors' own Lean function (tested against real Go, not proved from fmt's source: count such statements apart). THE CARD IS WHAT COUNTS. Prove the row's statement (the work); the ties are given (YtgemihkcihigpaaGreatDoorTie.lean); close each card by the builder's one call (the guide's Derived/Test/ToyasCard.lean, 'card_holds'). Laid BY PROGRAM, IN A SANDBOX (cutbox-door.mjs). By AI agents, Wed Nov 11 2026. No macro, syntax, notation, axiom, sorry.
-/
import Derived.Test.YtgemihkcihigpaaGreatDoorRows
import GoSem.ClaimSeven
namespace Go.Proofs.YtgemihkcihigpaaGreatDoor
namespace Rows

/-- THE TIED CARD OF 'vintnerlaw18.PlainDoes'. -/
def plainDoesCard : Claim7 := { stood := { row := plainDoesRow, standIns := [], harness := (true, "b22db83a5672d0296f4efd35b3cac657416a6c4ec041574e53bd48a0ebe25738"), looks := false }, kinds := [], alts := [], laidByText := true, laidKinds := [.funcs], laidTests := true, laidLooks := .later }
def PlainDoesCardSaid : Prop := Claim7.holds Tryz.pinned (.plain (OpenSpec.ofChange plainDoesSpec)) plainDoesCard

/-- THE TIED CARD OF 'vintnerlaw18.PlainRaw'. -/
def plainRawCard : Claim7 := { stood := { row := plainRawRow, standIns := [], harness := (true, "b22db83a5672d0296f4efd35b3cac657416a6c4ec041574e53bd48a0ebe25738"), looks := false }, kinds := [], alts := [], laidByText := true, laidKinds := [.funcs], laidTests := true, laidLooks := .later }
def PlainRawCardSaid : Prop := Claim7.holds Tryz.pinned (.plain (OpenSpec.ofChange plainRawSpec)) plainRawCard

/-- THE TIED CARD OF 'vintnerlaw18.PlainParts'. -/
def plainPartsCard : Claim7 := { stood := { row := plainPartsRow, standIns := [], harness := (true, "b22db83a5672d0296f4efd35b3cac657416a6c4ec041574e53bd48a0ebe25738"), looks := false }, kinds := [], alts := [], laidByText := true, laidKinds := [.funcs], laidTests := true, laidLooks := .later }
def PlainPartsCardSaid : Prop := Claim7.holds Tryz.pinned (.plain (OpenSpec.ofChange plainPartsSpec)) plainPartsCard

/-- THE TIED CARD OF 'vintnerlaw18.PlainJoins'. -/
def plainJoinsCard : Claim7 := { stood := { row := plainJoinsRow, standIns := [], harness := (true, "b22db83a5672d0296f4efd35b3cac657416a6c4ec041574e53bd48a0ebe25738"), looks := false }, kinds := [], alts := [], laidByText := true, laidKinds := [.funcs], laidTests := true, laidLooks := .later }
def PlainJoinsCardSaid : Prop := Claim7.holds Tryz.pinned (.plain (OpenSpec.ofChange plainJoinsSpec)) plainJoinsCard

/-- THE TIED CARD OF 'vintnerlaw18.PlainAggregates'. -/
def plainAggregatesCard : Claim7 := { stood := { row := plainAggregatesRow, standIns := [], harness := (true, "b22db83a5672d0296f4efd35b3cac657416a6c4ec041574e53bd48a0ebe25738"), looks := false }, kinds := [], alts := [], laidByText := true, laidKinds := [.funcs], laidTests := true, laidLooks := .later }
def PlainAggregatesCardSaid : Prop := Claim7.holds Tryz.pinned (.plain (OpenSpec.ofChange plainAggregatesSpec)) plainAggregatesCard

/-- THE TIED CARD OF 'vintnerlaw18.PlainSorted'. -/
def plainSortedCard : Claim7 := { stood := { row := plainSortedRow, standIns := [], harness := (true, "b22db83a5672d0296f4efd35b3cac657416a6c4ec041574e53bd48a0ebe25738"), looks := false }, kinds := [], alts := [], laidByText := true, laidKinds := [.funcs], laidTests := true, laidLooks := .later }
def PlainSortedCardSaid : Prop := Claim7.holds Tryz.pinned (.plain (OpenSpec.ofChange plainSortedSpec)) plainSortedCard

/-- THE TIED CARD OF 'vintnerlaw18.PlainAlike'. -/
def plainAlikeCard : Claim7 := { stood := { row := plainAlikeRow, standIns := [], harness := (true, "b22db83a5672d0296f4efd35b3cac657416a6c4ec041574e53bd48a0ebe25738"), looks := false }, kinds := [], alts := [], laidByText := true, laidKinds := [.funcs], laidTests := true, laidLooks := .later }
def PlainAlikeCardSaid : Prop := Claim7.holds Tryz.pinned (.plain (OpenSpec.ofChange plainAlikeSpec)) plainAlikeCard

/-- THE TIED CARD OF 'vintnerlaw18.PlainChanges'. -/
def plainChangesCard : Claim7 := { stood := { row := plainChangesRow, standIns := [], harness := (true, "b22db83a5672d0296f4efd35b3cac657416a6c4ec041574e53bd48a0ebe25738"), looks := false }, kinds := [], alts := [], laidByText := true, laidKinds := [.funcs], laidTests := true, laidLooks := .later }
def PlainChangesCardSaid : Prop := Claim7.holds Tryz.pinned (.plain (OpenSpec.ofChange plainChangesSpec)) plainChangesCard

/-- THE TIED CARD OF 'vintnerlaw18.PlainOrders'. -/
def plainOrdersCard : Claim7 := { stood := { row := plainOrdersRow, standIns := [], harness := (true, "b22db83a5672d0296f4efd35b3cac657416a6c4ec041574e53bd48a0ebe25738"), looks := false }, kinds := [], alts := [], laidByText := true, laidKinds := [.funcs], laidTests := true, laidLooks := .later }
def PlainOrdersCardSaid : Prop := Claim7.holds Tryz.pinned (.plain (OpenSpec.ofChange plainOrdersSpec)) plainOrdersCard

/-- THE TIED CARD OF 'vintnerlaw18.PlainOwn'. -/
def plainOwnCard : Claim7 := { stood := { row := plainOwnRow, standIns := [], harness := (true, "b22db83a5672d0296f4efd35b3cac657416a6c4ec041574e53bd48a0ebe25738"), looks := false }, kinds := [], alts := [], laidByText := true, laidKinds := [.funcs], laidTests := true, laidLooks := .later }
def PlainOwnCardSaid : Prop := Claim7.holds Tryz.pinned (.plain (OpenSpec.ofChange plainOwnSpec)) plainOwnCard

/-- THE SECOND FORM's CARD OF 'vintnerlaw18.PlainDoes'. -/
def plainDoesUptoCard : Claim7 := { stood := { row := plainDoesUptoRow, standIns := [], harness := (true, "b22db83a5672d0296f4efd35b3cac657416a6c4ec041574e53bd48a0ebe25738"), looks := false }, kinds := [], alts := [], laidByText := true, laidKinds := [.funcs], laidTests := true, laidLooks := .later }
def PlainDoesUptoCardSaid : Prop := Claim7.holds Tryz.pinned (.plain (OpenSpec.upto plainDoesSpec)) plainDoesUptoCard

/-- THE SECOND FORM's CARD OF 'vintnerlaw18.PlainRaw'. -/
def plainRawUptoCard : Claim7 := { stood := { row := plainRawUptoRow, standIns := [], harness := (true, "b22db83a5672d0296f4efd35b3cac657416a6c4ec041574e53bd48a0ebe25738"), looks := false }, kinds := [], alts := [], laidByText := true, laidKinds := [.funcs], laidTests := true, laidLooks := .later }
def PlainRawUptoCardSaid : Prop := Claim7.holds Tryz.pinned (.plain (OpenSpec.upto plainRawSpec)) plainRawUptoCard

/-- THE SECOND FORM's CARD OF 'vintnerlaw18.PlainParts'. -/
def plainPartsUptoCard : Claim7 := { stood := { row := plainPartsUptoRow, standIns := [], harness := (true, "b22db83a5672d0296f4efd35b3cac657416a6c4ec041574e53bd48a0ebe25738"), looks := false }, kinds := [], alts := [], laidByText := true, laidKinds := [.funcs], laidTests := true, laidLooks := .later }
def PlainPartsUptoCardSaid : Prop := Claim7.holds Tryz.pinned (.plain (OpenSpec.upto plainPartsSpec)) plainPartsUptoCard

/-- THE SECOND FORM's CARD OF 'vintnerlaw18.PlainJoins'. -/
def plainJoinsUptoCard : Claim7 := { stood := { row := plainJoinsUptoRow, standIns := [], harness := (true, "b22db83a5672d0296f4efd35b3cac657416a6c4ec041574e53bd48a0ebe25738"), looks := false }, kinds := [], alts := [], laidByText := true, laidKinds := [.funcs], laidTests := true, laidLooks := .later }
def PlainJoinsUptoCardSaid : Prop := Claim7.holds Tryz.pinned (.plain (OpenSpec.upto plainJoinsSpec)) plainJoinsUptoCard

/-- THE SECOND FORM's CARD OF 'vintnerlaw18.PlainAggregates'. -/
def plainAggregatesUptoCard : Claim7 := { stood := { row := plainAggregatesUptoRow, standIns := [], harness := (true, "b22db83a5672d0296f4efd35b3cac657416a6c4ec041574e53bd48a0ebe25738"), looks := false }, kinds := [], alts := [], laidByText := true, laidKinds := [.funcs], laidTests := true, laidLooks := .later }
def PlainAggregatesUptoCardSaid : Prop := Claim7.holds Tryz.pinned (.plain (OpenSpec.upto plainAggregatesSpec)) plainAggregatesUptoCard

/-- THE SECOND FORM's CARD OF 'vintnerlaw18.PlainSorted'. -/
def plainSortedUptoCard : Claim7 := { stood := { row := plainSortedUptoRow, standIns := [], harness := (true, "b22db83a5672d0296f4efd35b3cac657416a6c4ec041574e53bd48a0ebe25738"), looks := false }, kinds := [], alts := [], laidByText := true, laidKinds := [.funcs], laidTests := true, laidLooks := .later }
def PlainSortedUptoCardSaid : Prop := Claim7.holds Tryz.pinned (.plain (OpenSpec.upto plainSortedSpec)) plainSortedUptoCard

/-- THE SECOND FORM's CARD OF 'vintnerlaw18.PlainAlike'. -/
def plainAlikeUptoCard : Claim7 := { stood := { row := plainAlikeUptoRow, standIns := [], harness := (true, "b22db83a5672d0296f4efd35b3cac657416a6c4ec041574e53bd48a0ebe25738"), looks := false }, kinds := [], alts := [], laidByText := true, laidKinds := [.funcs], laidTests := true, laidLooks := .later }
def PlainAlikeUptoCardSaid : Prop := Claim7.holds Tryz.pinned (.plain (OpenSpec.upto plainAlikeSpec)) plainAlikeUptoCard

/-- THE SECOND FORM's CARD OF 'vintnerlaw18.PlainChanges'. -/
def plainChangesUptoCard : Claim7 := { stood := { row := plainChangesUptoRow, standIns := [], harness := (true, "b22db83a5672d0296f4efd35b3cac657416a6c4ec041574e53bd48a0ebe25738"), looks := false }, kinds := [], alts := [], laidByText := true, laidKinds := [.funcs], laidTests := true, laidLooks := .later }
def PlainChangesUptoCardSaid : Prop := Claim7.holds Tryz.pinned (.plain (OpenSpec.upto plainChangesSpec)) plainChangesUptoCard

/-- THE SECOND FORM's CARD OF 'vintnerlaw18.PlainOrders'. -/
def plainOrdersUptoCard : Claim7 := { stood := { row := plainOrdersUptoRow, standIns := [], harness := (true, "b22db83a5672d0296f4efd35b3cac657416a6c4ec041574e53bd48a0ebe25738"), looks := false }, kinds := [], alts := [], laidByText := true, laidKinds := [.funcs], laidTests := true, laidLooks := .later }
def PlainOrdersUptoCardSaid : Prop := Claim7.holds Tryz.pinned (.plain (OpenSpec.upto plainOrdersSpec)) plainOrdersUptoCard

/-- THE SECOND FORM's CARD OF 'vintnerlaw18.PlainOwn'. -/
def plainOwnUptoCard : Claim7 := { stood := { row := plainOwnUptoRow, standIns := [], harness := (true, "b22db83a5672d0296f4efd35b3cac657416a6c4ec041574e53bd48a0ebe25738"), looks := false }, kinds := [], alts := [], laidByText := true, laidKinds := [.funcs], laidTests := true, laidLooks := .later }
def PlainOwnUptoCardSaid : Prop := Claim7.holds Tryz.pinned (.plain (OpenSpec.upto plainOwnSpec)) plainOwnUptoCard
end Rows
end Go.Proofs.YtgemihkcihigpaaGreatDoor
