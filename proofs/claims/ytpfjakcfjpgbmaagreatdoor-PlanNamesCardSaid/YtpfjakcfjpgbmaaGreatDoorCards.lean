/-
  DERIVED. GIVEN WITH THE SEED: THE CARDS: each row of YtpfjakcfjpgbmaaGreatDoorRows.lean that lists a variable, with what it lists TIED to the program's text (the seventh form; the later family's looks); each row that meets fmt, with fmt's text TOLD by the authors' own Lean function (tested against real Go, not proved from fmt's source: count such statements apart). THE CARD IS WHAT COUNTS. Prove the row's statement (the work); the ties are given (YtpfjakcfjpgbmaaGreatDoorTie.lean); close each card by the builder's one call (the guide's Derived/Test/ToyasCard.lean, 'card_holds'). Laid BY PROGRAM, IN A SANDBOX (cutbox-door.mjs). By AI agents, Wed Nov 11 2026. No macro, syntax, notation, axiom, sorry.
-/
import Derived.Test.YtpfjakcfjpgbmaaGreatDoorRows
import GoSem.ClaimSeven
namespace Go.Proofs.YtpfjakcfjpgbmaaGreatDoor
namespace Rows

/-- THE TIED CARD OF 'vintnerlaw19.PlanNames'. -/
def planNamesCard : Claim7 := { stood := { row := planNamesRow, standIns := [], harness := (true, "02a97b6dcfac20ed346ce2c5c53f43e9c6139fcb19f8eafa703134dd661d9704"), looks := true }, kinds := [], alts := [], laidByText := true, laidKinds := [.data, .data, .data, .data, .sentinel, .sentinel, .listed, .data, .pinned], laidTests := true, laidLooks := .later }
def PlanNamesCardSaid : Prop := Claim7.holds Tryz.pinned (.plain (OpenSpec.ofChange planNamesSpec)) planNamesCard

/-- THE TIED CARD OF 'vintnerlaw20.ExecNil'. -/
def execNilCard : Claim7 := { stood := { row := execNilRow, standIns := [], harness := (true, "02a97b6dcfac20ed346ce2c5c53f43e9c6139fcb19f8eafa703134dd661d9704"), looks := true }, kinds := [], alts := [], laidByText := true, laidKinds := [.data, .funcs, .pinned], laidTests := true, laidLooks := .later }
def ExecNilCardSaid : Prop := Claim7.holds Tryz.pinned (.plain (OpenSpec.ofChange execNilSpec)) execNilCard

/-- THE TIED CARD OF 'vintnerlaw20.ExecNewest'. -/
def execNewestCard : Claim7 := { stood := { row := execNewestRow, standIns := [], harness := (true, "02a97b6dcfac20ed346ce2c5c53f43e9c6139fcb19f8eafa703134dd661d9704"), looks := true }, kinds := [], alts := [], laidByText := true, laidKinds := [.data, .funcs, .pinned], laidTests := true, laidLooks := .later }
def ExecNewestCardSaid : Prop := Claim7.holds Tryz.pinned (.plain (OpenSpec.ofChange execNewestSpec)) execNewestCard

/-- THE SECOND FORM's CARD OF 'vintnerlaw19.PlanNames'. -/
def planNamesUptoCard : Claim7 := { stood := { row := planNamesUptoRow, standIns := [], harness := (true, "02a97b6dcfac20ed346ce2c5c53f43e9c6139fcb19f8eafa703134dd661d9704"), looks := true }, kinds := [], alts := [], laidByText := true, laidKinds := [.data, .data, .data, .data, .sentinel, .sentinel, .listed, .data, .pinned], laidTests := true, laidLooks := .later }
def PlanNamesUptoCardSaid : Prop := Claim7.holds Tryz.pinned (.plain (OpenSpec.upto planNamesSpec)) planNamesUptoCard

/-- THE SECOND FORM's CARD OF 'vintnerlaw20.ExecNil'. -/
def execNilUptoCard : Claim7 := { stood := { row := execNilUptoRow, standIns := [], harness := (true, "02a97b6dcfac20ed346ce2c5c53f43e9c6139fcb19f8eafa703134dd661d9704"), looks := true }, kinds := [], alts := [], laidByText := true, laidKinds := [.data, .funcs, .pinned], laidTests := true, laidLooks := .later }
def ExecNilUptoCardSaid : Prop := Claim7.holds Tryz.pinned (.plain (OpenSpec.upto execNilSpec)) execNilUptoCard

/-- THE SECOND FORM's CARD OF 'vintnerlaw20.ExecNewest'. -/
def execNewestUptoCard : Claim7 := { stood := { row := execNewestUptoRow, standIns := [], harness := (true, "02a97b6dcfac20ed346ce2c5c53f43e9c6139fcb19f8eafa703134dd661d9704"), looks := true }, kinds := [], alts := [], laidByText := true, laidKinds := [.data, .funcs, .pinned], laidTests := true, laidLooks := .later }
def ExecNewestUptoCardSaid : Prop := Claim7.holds Tryz.pinned (.plain (OpenSpec.upto execNewestSpec)) execNewestUptoCard
end Rows
end Go.Proofs.YtpfjakcfjpgbmaaGreatDoor
