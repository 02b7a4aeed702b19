/-
  DERIVED. GIVEN WITH THE SEED: THE CARDS: each row of YtieojjngeibnmaaGreatDoorRows.lean that lists a variable, with what it lists TIED to the program's text (the seventh form; the later family's looks); each row that meets fmt, with fmt's text TOLD by the authors' own Lean function (tested against real Go, not proved from fmt's source: count such statements apart). THE CARD IS WHAT COUNTS. Prove the row's statement (the work); the ties are given (YtieojjngeibnmaaGreatDoorTie.lean); close each card by the builder's one call (the guide's Derived/Test/ToyasCard.lean, 'card_holds'). Laid BY PROGRAM, IN A SANDBOX (cutbox-door.mjs). By AI agents, Wed Nov 11 2026. No macro, syntax, notation, axiom, sorry.
-/
import Derived.Test.YtieojjngeibnmaaGreatDoorRows
import GoSem.ClaimSeven
namespace Go.Proofs.YtieojjngeibnmaaGreatDoor
namespace Rows

/-- THE TIED CARD OF 'vintnerlaw17.LangPrints'. -/
def langPrintsCard : Claim7 := { stood := { row := langPrintsRow, standIns := [], harness := (true, "4301ddf8ee404f496705075c7c6602d2e7584cba9823206937f4daba0eb584fc"), looks := true }, kinds := [], alts := [], laidByText := true, laidKinds := [.data, .data, .data, .data, .sentinel, .sentinel, .listed, .data, .pinned], laidTests := true, laidLooks := .later }
def LangPrintsCardSaid : Prop := Claim7.holds Tryz.pinned (.plain (OpenSpec.ofChange langPrintsSpec)) langPrintsCard

/-- THE TIED CARD OF 'vintnerlaw17.LangBack'. -/
def langBackCard : Claim7 := { stood := { row := langBackRow, standIns := [], harness := (true, "4301ddf8ee404f496705075c7c6602d2e7584cba9823206937f4daba0eb584fc"), looks := true }, kinds := [], alts := [], laidByText := true, laidKinds := [.data, .data, .data, .data, .sentinel, .sentinel, .listed, .data, .pinned], laidTests := true, laidLooks := .later }
def LangBackCardSaid : Prop := Claim7.holds Tryz.pinned (.plain (OpenSpec.ofChange langBackSpec)) langBackCard

/-- THE TIED CARD OF 'vintnerlaw17.LangAgain'. -/
def langAgainCard : Claim7 := { stood := { row := langAgainRow, standIns := [], harness := (true, "4301ddf8ee404f496705075c7c6602d2e7584cba9823206937f4daba0eb584fc"), looks := true }, kinds := [], alts := [], laidByText := true, laidKinds := [.data, .data, .data, .data, .sentinel, .sentinel, .listed, .data, .pinned], laidTests := true, laidLooks := .later }
def LangAgainCardSaid : Prop := Claim7.holds Tryz.pinned (.plain (OpenSpec.ofChange langAgainSpec)) langAgainCard

/-- THE TIED CARD OF 'vintnerlaw17.LangBlanks'. -/
def langBlanksCard : Claim7 := { stood := { row := langBlanksRow, standIns := [], harness := (true, "4301ddf8ee404f496705075c7c6602d2e7584cba9823206937f4daba0eb584fc"), looks := true }, kinds := [], alts := [], laidByText := true, laidKinds := [.data, .data, .data, .data, .sentinel, .sentinel, .listed, .data, .pinned], laidTests := true, laidLooks := .later }
def LangBlanksCardSaid : Prop := Claim7.holds Tryz.pinned (.plain (OpenSpec.ofChange langBlanksSpec)) langBlanksCard

/-- THE TIED CARD OF 'vintnerlaw17.LangFirst'. -/
def langFirstCard : Claim7 := { stood := { row := langFirstRow, standIns := [], harness := (true, "4301ddf8ee404f496705075c7c6602d2e7584cba9823206937f4daba0eb584fc"), looks := true }, kinds := [], alts := [], laidByText := true, laidKinds := [.data, .data, .data, .data, .sentinel, .sentinel, .listed, .data, .pinned], laidTests := true, laidLooks := .later }
def LangFirstCardSaid : Prop := Claim7.holds Tryz.pinned (.plain (OpenSpec.ofChange langFirstSpec)) langFirstCard

/-- THE TIED CARD OF 'vintnerlaw17.LangLists'. -/
def langListsCard : Claim7 := { stood := { row := langListsRow, standIns := [], harness := (true, "4301ddf8ee404f496705075c7c6602d2e7584cba9823206937f4daba0eb584fc"), looks := true }, kinds := [], alts := [], laidByText := true, laidKinds := [.data, .data, .data, .data, .sentinel, .sentinel, .listed, .data, .pinned], laidTests := true, laidLooks := .later }
def LangListsCardSaid : Prop := Claim7.holds Tryz.pinned (.plain (OpenSpec.ofChange langListsSpec)) langListsCard

/-- THE TIED CARD OF 'vintnerlaw17.LangValues'. -/
def langValuesCard : Claim7 := { stood := { row := langValuesRow, standIns := [], harness := (true, "4301ddf8ee404f496705075c7c6602d2e7584cba9823206937f4daba0eb584fc"), looks := true }, kinds := [], alts := [], laidByText := true, laidKinds := [.data, .data, .data, .data, .sentinel, .sentinel, .listed, .data, .funcs, .pinned], laidTests := true, laidLooks := .later }
def LangValuesCardSaid : Prop := Claim7.holds Tryz.pinned (.plain (OpenSpec.ofChange langValuesSpec)) langValuesCard

/-- THE TIED CARD OF 'vintnerlaw17.LangCatalog'. -/
def langCatalogCard : Claim7 := { stood := { row := langCatalogRow, standIns := [], harness := (true, "4301ddf8ee404f496705075c7c6602d2e7584cba9823206937f4daba0eb584fc"), looks := true }, kinds := [], alts := [], laidByText := true, laidKinds := [.data, .data, .data, .data, .sentinel, .sentinel, .listed, .data, .pinned], laidTests := true, laidLooks := .later }
def LangCatalogCardSaid : Prop := Claim7.holds Tryz.pinned (.plain (OpenSpec.ofChange langCatalogSpec)) langCatalogCard

/-- THE TIED CARD OF 'vintnerlaw19.PlanNames'. -/
def planNamesCard : Claim7 := { stood := { row := planNamesRow, standIns := [], harness := (true, "4301ddf8ee404f496705075c7c6602d2e7584cba9823206937f4daba0eb584fc"), looks := true }, kinds := [], alts := [], laidByText := true, laidKinds := [.data, .data, .data, .data, .sentinel, .sentinel, .listed, .data, .pinned], laidTests := true, laidLooks := .later }
def PlanNamesCardSaid : Prop := Claim7.holds Tryz.pinned (.plain (OpenSpec.ofChange planNamesSpec)) planNamesCard

/-- THE SECOND FORM's CARD OF 'vintnerlaw17.LangPrints'. -/
def langPrintsUptoCard : Claim7 := { stood := { row := langPrintsUptoRow, standIns := [], harness := (true, "4301ddf8ee404f496705075c7c6602d2e7584cba9823206937f4daba0eb584fc"), looks := true }, kinds := [], alts := [], laidByText := true, laidKinds := [.data, .data, .data, .data, .sentinel, .sentinel, .listed, .data, .pinned], laidTests := true, laidLooks := .later }
def LangPrintsUptoCardSaid : Prop := Claim7.holds Tryz.pinned (.plain (OpenSpec.upto langPrintsSpec)) langPrintsUptoCard

/-- THE SECOND FORM's CARD OF 'vintnerlaw17.LangBack'. -/
def langBackUptoCard : Claim7 := { stood := { row := langBackUptoRow, standIns := [], harness := (true, "4301ddf8ee404f496705075c7c6602d2e7584cba9823206937f4daba0eb584fc"), looks := true }, kinds := [], alts := [], laidByText := true, laidKinds := [.data, .data, .data, .data, .sentinel, .sentinel, .listed, .data, .pinned], laidTests := true, laidLooks := .later }
def LangBackUptoCardSaid : Prop := Claim7.holds Tryz.pinned (.plain (OpenSpec.upto langBackSpec)) langBackUptoCard

/-- THE SECOND FORM's CARD OF 'vintnerlaw17.LangAgain'. -/
def langAgainUptoCard : Claim7 := { stood := { row := langAgainUptoRow, standIns := [], harness := (true, "4301ddf8ee404f496705075c7c6602d2e7584cba9823206937f4daba0eb584fc"), looks := true }, kinds := [], alts := [], laidByText := true, laidKinds := [.data, .data, .data, .data, .sentinel, .sentinel, .listed, .data, .pinned], laidTests := true, laidLooks := .later }
def LangAgainUptoCardSaid : Prop := Claim7.holds Tryz.pinned (.plain (OpenSpec.upto langAgainSpec)) langAgainUptoCard

/-- THE SECOND FORM's CARD OF 'vintnerlaw17.LangBlanks'. -/
def langBlanksUptoCard : Claim7 := { stood := { row := langBlanksUptoRow, standIns := [], harness := (true, "4301ddf8ee404f496705075c7c6602d2e7584cba9823206937f4daba0eb584fc"), looks := true }, kinds := [], alts := [], laidByText := true, laidKinds := [.data, .data, .data, .data, .sentinel, .sentinel, .listed, .data, .pinned], laidTests := true, laidLooks := .later }
def LangBlanksUptoCardSaid : Prop := Claim7.holds Tryz.pinned (.plain (OpenSpec.upto langBlanksSpec)) langBlanksUptoCard

/-- THE SECOND FORM's CARD OF 'vintnerlaw17.LangFirst'. -/
def langFirstUptoCard : Claim7 := { stood := { row := langFirstUptoRow, standIns := [], harness := (true, "4301ddf8ee404f496705075c7c6602d2e7584cba9823206937f4daba0eb584fc"), looks := true }, kinds := [], alts := [], laidByText := true, laidKinds := [.data, .data, .data, .data, .sentinel, .sentinel, .listed, .data, .pinned], laidTests := true, laidLooks := .later }
def LangFirstUptoCardSaid : Prop := Claim7.holds Tryz.pinned (.plain (OpenSpec.upto langFirstSpec)) langFirstUptoCard

/-- THE SECOND FORM's CARD OF 'vintnerlaw17.LangLists'. -/
def langListsUptoCard : Claim7 := { stood := { row := langListsUptoRow, standIns := [], harness := (true, "4301ddf8ee404f496705075c7c6602d2e7584cba9823206937f4daba0eb584fc"), looks := true }, kinds := [], alts := [], laidByText := true, laidKinds := [.data, .data, .data, .data, .sentinel, .sentinel, .listed, .data, .pinned], laidTests := true, laidLooks := .later }
def LangListsUptoCardSaid : Prop := Claim7.holds Tryz.pinned (.plain (OpenSpec.upto langListsSpec)) langListsUptoCard

/-- THE SECOND FORM's CARD OF 'vintnerlaw17.LangValues'. -/
def langValuesUptoCard : Claim7 := { stood := { row := langValuesUptoRow, standIns := [], harness := (true, "4301ddf8ee404f496705075c7c6602d2e7584cba9823206937f4daba0eb584fc"), looks := true }, kinds := [], alts := [], laidByText := true, laidKinds := [.data, .data, .data, .data, .sentinel, .sentinel, .listed, .data, .funcs, .pinned], laidTests := true, laidLooks := .later }
def LangValuesUptoCardSaid : Prop := Claim7.holds Tryz.pinned (.plain (OpenSpec.upto langValuesSpec)) langValuesUptoCard

/-- THE SECOND FORM's CARD OF 'vintnerlaw17.LangCatalog'. -/
def langCatalogUptoCard : Claim7 := { stood := { row := langCatalogUptoRow, standIns := [], harness := (true, "4301ddf8ee404f496705075c7c6602d2e7584cba9823206937f4daba0eb584fc"), looks := true }, kinds := [], alts := [], laidByText := true, laidKinds := [.data, .data, .data, .data, .sentinel, .sentinel, .listed, .data, .pinned], laidTests := true, laidLooks := .later }
def LangCatalogUptoCardSaid : Prop := Claim7.holds Tryz.pinned (.plain (OpenSpec.upto langCatalogSpec)) langCatalogUptoCard

/-- THE SECOND FORM's CARD OF 'vintnerlaw19.PlanNames'. -/
def planNamesUptoCard : Claim7 := { stood := { row := planNamesUptoRow, standIns := [], harness := (true, "4301ddf8ee404f496705075c7c6602d2e7584cba9823206937f4daba0eb584fc"), looks := true }, kinds := [], alts := [], laidByText := true, laidKinds := [.data, .data, .data, .data, .sentinel, .sentinel, .listed, .data, .pinned], laidTests := true, laidLooks := .later }
def PlanNamesUptoCardSaid : Prop := Claim7.holds Tryz.pinned (.plain (OpenSpec.upto planNamesSpec)) planNamesUptoCard
end Rows
end Go.Proofs.YtieojjngeibnmaaGreatDoor
