/-
  DERIVED. GIVEN WITH THE SEED: THE CARDS: each row of YtkbnhccfnimibaaGreatDoorRows.lean that lists a variable, with what it lists TIED to the program's text (the seventh form; the later family's looks); each row that meets fmt, with fmt's text TOLD by the authors' own Lean function (tested against real Go, not proved from fmt's source: count such statements apart). THE CARD IS WHAT COUNTS. Prove the row's statement (the work); the ties are given (YtkbnhccfnimibaaGreatDoorTie.lean); close each card by the builder's one call (the guide's Derived/Test/ToyasCard.lean, 'card_holds'). Laid BY PROGRAM, IN A SANDBOX (cutbox-door.mjs). By AI agents, Wed Nov 11 2026. No macro, syntax, notation, axiom, sorry.
-/
import Derived.Test.YtkbnhccfnimibaaGreatDoorRows
import GoSem.ClaimSeven
namespace Go.Proofs.YtkbnhccfnimibaaGreatDoor
namespace Rows

/-- THE TIED CARD OF 'vintnerlaw24.SerialTimes'. -/
def serialTimesCard : Claim7 := { stood := { row := serialTimesRow, standIns := [], harness := (true, "e3c35bb30703dad3632d176ea68c6e91aa17ec4845080619034a4a9b3bd9cffa"), looks := true }, kinds := [], alts := [], laidByText := true, laidKinds := [.data, .data, .data, .sentinel, .sentinel, .listed, .data, .funcs], laidTests := true, laidLooks := .later }
def SerialTimesCardSaid : Prop := Claim7.holds Tryz.pinned (.plain (OpenSpec.ofChange serialTimesSpec)) serialTimesCard

/-- THE TIED CARD OF 'vintnerlaw24.SerialPending'. -/
def serialPendingCard : Claim7 := { stood := { row := serialPendingRow, standIns := [], harness := (true, "e3c35bb30703dad3632d176ea68c6e91aa17ec4845080619034a4a9b3bd9cffa"), looks := true }, kinds := [], alts := [], laidByText := true, laidKinds := [.data, .data, .data, .sentinel, .sentinel, .listed, .data, .funcs], laidTests := true, laidLooks := .later }
def SerialPendingCardSaid : Prop := Claim7.holds Tryz.pinned (.plain (OpenSpec.ofChange serialPendingSpec)) serialPendingCard

/-- THE TIED CARD OF 'vintnerlaw24.SerialMany'. -/
def serialManyCard : Claim7 := { stood := { row := serialManyRow, standIns := [], harness := (true, "e3c35bb30703dad3632d176ea68c6e91aa17ec4845080619034a4a9b3bd9cffa"), looks := true }, kinds := [], alts := [], laidByText := true, laidKinds := [.data, .data, .data, .sentinel, .sentinel, .listed, .data, .funcs], laidTests := true, laidLooks := .later }
def SerialManyCardSaid : Prop := Claim7.holds Tryz.pinned (.plain (OpenSpec.ofChange serialManySpec)) serialManyCard

/-- THE TIED CARD OF 'vintnerlaw24.SerialSkew'. -/
def serialSkewCard : Claim7 := { stood := { row := serialSkewRow, standIns := [], harness := (true, "e3c35bb30703dad3632d176ea68c6e91aa17ec4845080619034a4a9b3bd9cffa"), looks := true }, kinds := [], alts := [], laidByText := true, laidKinds := [.data, .data, .data, .sentinel, .sentinel, .listed, .data, .funcs], laidTests := true, laidLooks := .later }
def SerialSkewCardSaid : Prop := Claim7.holds Tryz.pinned (.plain (OpenSpec.ofChange serialSkewSpec)) serialSkewCard

/-- THE SECOND FORM's CARD OF 'vintnerlaw24.SerialTimes'. -/
def serialTimesUptoCard : Claim7 := { stood := { row := serialTimesUptoRow, standIns := [], harness := (true, "e3c35bb30703dad3632d176ea68c6e91aa17ec4845080619034a4a9b3bd9cffa"), looks := true }, kinds := [], alts := [], laidByText := true, laidKinds := [.data, .data, .data, .sentinel, .sentinel, .listed, .data, .funcs], laidTests := true, laidLooks := .later }
def SerialTimesUptoCardSaid : Prop := Claim7.holds Tryz.pinned (.plain (OpenSpec.upto serialTimesSpec)) serialTimesUptoCard

/-- THE SECOND FORM's CARD OF 'vintnerlaw24.SerialPending'. -/
def serialPendingUptoCard : Claim7 := { stood := { row := serialPendingUptoRow, standIns := [], harness := (true, "e3c35bb30703dad3632d176ea68c6e91aa17ec4845080619034a4a9b3bd9cffa"), looks := true }, kinds := [], alts := [], laidByText := true, laidKinds := [.data, .data, .data, .sentinel, .sentinel, .listed, .data, .funcs], laidTests := true, laidLooks := .later }
def SerialPendingUptoCardSaid : Prop := Claim7.holds Tryz.pinned (.plain (OpenSpec.upto serialPendingSpec)) serialPendingUptoCard

/-- THE SECOND FORM's CARD OF 'vintnerlaw24.SerialMany'. -/
def serialManyUptoCard : Claim7 := { stood := { row := serialManyUptoRow, standIns := [], harness := (true, "e3c35bb30703dad3632d176ea68c6e91aa17ec4845080619034a4a9b3bd9cffa"), looks := true }, kinds := [], alts := [], laidByText := true, laidKinds := [.data, .data, .data, .sentinel, .sentinel, .listed, .data, .funcs], laidTests := true, laidLooks := .later }
def SerialManyUptoCardSaid : Prop := Claim7.holds Tryz.pinned (.plain (OpenSpec.upto serialManySpec)) serialManyUptoCard

/-- THE SECOND FORM's CARD OF 'vintnerlaw24.SerialSkew'. -/
def serialSkewUptoCard : Claim7 := { stood := { row := serialSkewUptoRow, standIns := [], harness := (true, "e3c35bb30703dad3632d176ea68c6e91aa17ec4845080619034a4a9b3bd9cffa"), looks := true }, kinds := [], alts := [], laidByText := true, laidKinds := [.data, .data, .data, .sentinel, .sentinel, .listed, .data, .funcs], laidTests := true, laidLooks := .later }
def SerialSkewUptoCardSaid : Prop := Claim7.holds Tryz.pinned (.plain (OpenSpec.upto serialSkewSpec)) serialSkewUptoCard
end Rows
end Go.Proofs.YtkbnhccfnimibaaGreatDoor
