/-
  DERIVED. GIVEN WITH THE SEED: THE CARDS: each row of YtjcpccadmcglgaaGreatDoorRows.lean that lists a variable, with what it lists TIED to the program's text (the seventh form; the later family's looks); each row that meets fmt, with fmt's text TOLD by the authors' own Lean function (tested against real Go, not proved from fmt's source: count such statements apart). THE CARD IS WHAT COUNTS. Prove the row's statement (the work); the ties are given (YtjcpccadmcglgaaGreatDoorTie.lean); close each card by the builder's one call (the guide's Derived/Test/ToyasCard.lean, 'card_holds'). Laid BY PROGRAM, IN A SANDBOX (cutbox-door.mjs). By AI agents, Wed Nov 11 2026. No macro, syntax, notation, axiom, sorry.
-/
import Derived.Test.YtjcpccadmcglgaaGreatDoorRows
import GoSem.ClaimSeven
namespace Go.Proofs.YtjcpccadmcglgaaGreatDoor
namespace Rows

/-- THE TIED CARD OF 'vintnerlaw17.LangCatalog'. -/
def langCatalogCard : Claim7 := { stood := { row := langCatalogRow, standIns := [], harness := (true, "3b97028abe63522f5b54896148b2b6e61b6c8f0e42b2d561fa6a72c9e113b757"), looks := true }, kinds := [], alts := [], laidByText := true, laidKinds := [.data, .data, .data, .data, .sentinel, .sentinel, .listed, .data, .pinned], laidTests := true, laidLooks := .later }
def LangCatalogCardSaid : Prop := Claim7.holds Tryz.pinned (.plain (OpenSpec.ofChange langCatalogSpec)) langCatalogCard

/-- THE SECOND FORM's CARD OF 'vintnerlaw17.LangCatalog'. -/
def langCatalogUptoCard : Claim7 := { stood := { row := langCatalogUptoRow, standIns := [], harness := (true, "3b97028abe63522f5b54896148b2b6e61b6c8f0e42b2d561fa6a72c9e113b757"), looks := true }, kinds := [], alts := [], laidByText := true, laidKinds := [.data, .data, .data, .data, .sentinel, .sentinel, .listed, .data, .pinned], laidTests := true, laidLooks := .later }
def LangCatalogUptoCardSaid : Prop := Claim7.holds Tryz.pinned (.plain (OpenSpec.upto langCatalogSpec)) langCatalogUptoCard
end Rows
end Go.Proofs.YtjcpccadmcglgaaGreatDoor
