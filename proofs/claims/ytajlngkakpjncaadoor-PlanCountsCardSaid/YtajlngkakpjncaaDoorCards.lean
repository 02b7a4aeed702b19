/-
  DERIVED. GIVEN WITH THE SEED: THE CARDS: each row of YtajlngkakpjncaaDoorRows.lean that lists a variable, with what it lists TIED to the program's text (the seventh form; the later family's looks); each row that meets fmt, with fmt's text TOLD by the authors' own Lean function (tested against real Go, not proved from fmt's source: count such statements apart). THE CARD IS WHAT COUNTS. Prove the row's statement (the work); the ties are given (YtajlngkakpjncaaDoorTie.lean); close each card by the builder's one call (the guide's Derived/Test/ToyasCard.lean, 'card_holds'). Laid BY PROGRAM, IN A SANDBOX (cutbox-door.mjs). By AI agents, Wed Nov 11 2026. No macro, syntax, notation, axiom, sorry.
-/
import Derived.Test.YtajlngkakpjncaaDoorRows
import GoSem.ClaimSeven
namespace Go.Proofs.YtajlngkakpjncaaDoor
namespace Rows

/-- THE TIED CARD OF 'vintnerlaw19.PlanOrder'. -/
def planOrderCard : Claim7 := { stood := { row := planOrderRow, standIns := [], harness := (true, "8614f1edcbf72a5943fc57b6cc286ef2dbfb353c30d3a5a2cf4c79359a281d37"), looks := false }, kinds := [], alts := [], laidByText := true, laidKinds := [.data, .pinned], laidTests := true, laidLooks := .later }
def PlanOrderCardSaid : Prop := Claim7.holds Tryd.pinned (.plain (OpenSpec.ofChange planOrderSpec)) planOrderCard

/-- THE TIED CARD OF 'vintnerlaw19.PlanMerges'. -/
def planMergesCard : Claim7 := { stood := { row := planMergesRow, standIns := [], harness := (true, "8614f1edcbf72a5943fc57b6cc286ef2dbfb353c30d3a5a2cf4c79359a281d37"), looks := false }, kinds := [], alts := [], laidByText := true, laidKinds := [.data, .pinned], laidTests := true, laidLooks := .later }
def PlanMergesCardSaid : Prop := Claim7.holds Tryd.pinned (.plain (OpenSpec.ofChange planMergesSpec)) planMergesCard

/-- THE TIED CARD OF 'vintnerlaw19.PlanCovers'. -/
def planCoversCard : Claim7 := { stood := { row := planCoversRow, standIns := [], harness := (true, "8614f1edcbf72a5943fc57b6cc286ef2dbfb353c30d3a5a2cf4c79359a281d37"), looks := false }, kinds := [], alts := [], laidByText := true, laidKinds := [.data, .pinned], laidTests := true, laidLooks := .later }
def PlanCoversCardSaid : Prop := Claim7.holds Tryd.pinned (.plain (OpenSpec.ofChange planCoversSpec)) planCoversCard

/-- THE TIED CARD OF 'vintnerlaw19.PlanRaw'. -/
def planRawCard : Claim7 := { stood := { row := planRawRow, standIns := [], harness := (true, "8614f1edcbf72a5943fc57b6cc286ef2dbfb353c30d3a5a2cf4c79359a281d37"), looks := false }, kinds := [], alts := [], laidByText := true, laidKinds := [.data, .pinned], laidTests := true, laidLooks := .later }
def PlanRawCardSaid : Prop := Claim7.holds Tryd.pinned (.plain (OpenSpec.ofChange planRawSpec)) planRawCard

/-- THE TIED CARD OF 'vintnerlaw19.PlanLeast'. -/
def planLeastCard : Claim7 := { stood := { row := planLeastRow, standIns := [], harness := (true, "8614f1edcbf72a5943fc57b6cc286ef2dbfb353c30d3a5a2cf4c79359a281d37"), looks := false }, kinds := [], alts := [], laidByText := true, laidKinds := [.data, .pinned], laidTests := true, laidLooks := .later }
def PlanLeastCardSaid : Prop := Claim7.holds Tryd.pinned (.plain (OpenSpec.ofChange planLeastSpec)) planLeastCard

/-- THE TIED CARD OF 'vintnerlaw19.PlanBounds'. -/
def planBoundsCard : Claim7 := { stood := { row := planBoundsRow, standIns := [], harness := (true, "8614f1edcbf72a5943fc57b6cc286ef2dbfb353c30d3a5a2cf4c79359a281d37"), looks := false }, kinds := [], alts := [], laidByText := true, laidKinds := [.data, .funcs, .pinned], laidTests := true, laidLooks := .later }
def PlanBoundsCardSaid : Prop := Claim7.holds Tryd.pinned (.plain (OpenSpec.ofChange planBoundsSpec)) planBoundsCard

/-- THE TIED CARD OF 'vintnerlaw19.PlanCounts'. -/
def planCountsCard : Claim7 := { stood := { row := planCountsRow, standIns := [], harness := (true, "8614f1edcbf72a5943fc57b6cc286ef2dbfb353c30d3a5a2cf4c79359a281d37"), looks := false }, kinds := [], alts := [], laidByText := true, laidKinds := [.data, .funcs, .pinned], laidTests := true, laidLooks := .later }
def PlanCountsCardSaid : Prop := Claim7.holds Tryd.pinned (.plain (OpenSpec.ofChange planCountsSpec)) planCountsCard

/-- THE SECOND FORM's CARD OF 'vintnerlaw19.PlanOrder'. -/
def planOrderUptoCard : Claim7 := { stood := { row := planOrderUptoRow, standIns := [], harness := (true, "8614f1edcbf72a5943fc57b6cc286ef2dbfb353c30d3a5a2cf4c79359a281d37"), looks := false }, kinds := [], alts := [], laidByText := true, laidKinds := [.data, .pinned], laidTests := true, laidLooks := .later }
def PlanOrderUptoCardSaid : Prop := Claim7.holds Tryd.pinned (.plain (OpenSpec.upto planOrderSpec)) planOrderUptoCard

/-- THE SECOND FORM's CARD OF 'vintnerlaw19.PlanMerges'. -/
def planMergesUptoCard : Claim7 := { stood := { row := planMergesUptoRow, standIns := [], harness := (true, "8614f1edcbf72a5943fc57b6cc286ef2dbfb353c30d3a5a2cf4c79359a281d37"), looks := false }, kinds := [], alts := [], laidByText := true, laidKinds := [.data, .pinned], laidTests := true, laidLooks := .later }
def PlanMergesUptoCardSaid : Prop := Claim7.holds Tryd.pinned (.plain (OpenSpec.upto planMergesSpec)) planMergesUptoCard

/-- THE SECOND FORM's CARD OF 'vintnerlaw19.PlanCovers'. -/
def planCoversUptoCard : Claim7 := { stood := { row := planCoversUptoRow, standIns := [], harness := (true, "8614f1edcbf72a5943fc57b6cc286ef2dbfb353c30d3a5a2cf4c79359a281d37"), looks := false }, kinds := [], alts := [], laidByText := true, laidKinds := [.data, .pinned], laidTests := true, laidLooks := .later }
def PlanCoversUptoCardSaid : Prop := Claim7.holds Tryd.pinned (.plain (OpenSpec.upto planCoversSpec)) planCoversUptoCard

/-- THE SECOND FORM's CARD OF 'vintnerlaw19.PlanRaw'. -/
def planRawUptoCard : Claim7 := { stood := { row := planRawUptoRow, standIns := [], harness := (true, "8614f1edcbf72a5943fc57b6cc286ef2dbfb353c30d3a5a2cf4c79359a281d37"), looks := false }, kinds := [], alts := [], laidByText := true, laidKinds := [.data, .pinned], laidTests := true, laidLooks := .later }
def PlanRawUptoCardSaid : Prop := Claim7.holds Tryd.pinned (.plain (OpenSpec.upto planRawSpec)) planRawUptoCard

/-- THE SECOND FORM's CARD OF 'vintnerlaw19.PlanLeast'. -/
def planLeastUptoCard : Claim7 := { stood := { row := planLeastUptoRow, standIns := [], harness := (true, "8614f1edcbf72a5943fc57b6cc286ef2dbfb353c30d3a5a2cf4c79359a281d37"), looks := false }, kinds := [], alts := [], laidByText := true, laidKinds := [.data, .pinned], laidTests := true, laidLooks := .later }
def PlanLeastUptoCardSaid : Prop := Claim7.holds Tryd.pinned (.plain (OpenSpec.upto planLeastSpec)) planLeastUptoCard

/-- THE SECOND FORM's CARD OF 'vintnerlaw19.PlanBounds'. -/
def planBoundsUptoCard : Claim7 := { stood := { row := planBoundsUptoRow, standIns := [], harness := (true, "8614f1edcbf72a5943fc57b6cc286ef2dbfb353c30d3a5a2cf4c79359a281d37"), looks := false }, kinds := [], alts := [], laidByText := true, laidKinds := [.data, .funcs, .pinned], laidTests := true, laidLooks := .later }
def PlanBoundsUptoCardSaid : Prop := Claim7.holds Tryd.pinned (.plain (OpenSpec.upto planBoundsSpec)) planBoundsUptoCard

/-- THE SECOND FORM's CARD OF 'vintnerlaw19.PlanCounts'. -/
def planCountsUptoCard : Claim7 := { stood := { row := planCountsUptoRow, standIns := [], harness := (true, "8614f1edcbf72a5943fc57b6cc286ef2dbfb353c30d3a5a2cf4c79359a281d37"), looks := false }, kinds := [], alts := [], laidByText := true, laidKinds := [.data, .funcs, .pinned], laidTests := true, laidLooks := .later }
def PlanCountsUptoCardSaid : Prop := Claim7.holds Tryd.pinned (.plain (OpenSpec.upto planCountsSpec)) planCountsUptoCard
end Rows
end Go.Proofs.YtajlngkakpjncaaDoor
