/-
  NARROWER THAN 'FOR EVERY INPUT', by the rows' own cells (each row's printed sentence says how): PlanOrder: laid · PlanMerges: laid · PlanCovers: laid · PlanRaw: laid · PlanLeast: laid · PlanBounds: laid · PlanCounts: laid.
  DERIVED. THE GIVEN ROWS OF THIS SEAT. 7 by the template 'for every input the law returns true; each argument reads behind the call as it read before'; 0 by the template 'total and deterministic' (their statements: YtajlngkakpjncaaDoorTotals.lean).
  GIVEN WITH THE SEED: the statements are not yours to turn. If you find one false, say at which input.
  Laid BY PROGRAM, IN A SANDBOX (cutbox-rows.mjs): the forced cells as the released guide's own fill.sh prints them over the translation 69a4994f1bc27fb1… (all of the seat's roots in one cut). By AI agents, Wed Nov 11 2026. No macro, syntax, notation, axiom, sorry.
-/
import Derived.Test.YtajlngkakpjncaaDoorChecked
import GoSem.PinnedTables
import GoSem.Claim
import GoSem.ClaimJoined
import GoSem.ClaimMapViews
import Derived.JoinedTies
import Derived.KernelRfl
namespace Go.Proofs.YtajlngkakpjncaaDoor
/- THE CELL 'sum', in the pinned program and in every row, IS THE sha256 OF THE DUMP (.gsa) THAT YtajlngkakpjncaaDoorProg.lean LOADS. Nothing in Lean hashes anything: it is a label: what it is worth is what the hold of that sum in a sandbox is worth. -/
noncomputable def Tryd.pinned : Pinned := { name := "ytajlngkakpjncaadoor", sum := "69a4994f1bc27fb1459e2b8977ceffca9c215523ef7ce022b7b9f2a5ffca8d4e", checked := Tryd.checked }
namespace Rows
def none {H : Type} : Left H := { results := [], args := [] }

/- WHAT THE LISTED PACKAGE-LEVEL VARIABLES READ AS WHEN THE CALL BEGINS. Each datum BY PROGRAM (the guide's laid-datum.mjs) off the statement by which the dump's own 'gosem.cut.vars' lays the variable. In a bare row this is a premise. The card (YtajlngkakpjncaaDoorCards.lean) ties it to the program's text. -/
def laid_unicode_utf8_acceptRanges {H : Type} : DataW H := .agg [.agg [.lit (.int .u8 128), .lit (.int .u8 191)], .agg [.lit (.int .u8 160), .lit (.int .u8 191)], .agg [.lit (.int .u8 128), .lit (.int .u8 159)], .agg [.lit (.int .u8 144), .lit (.int .u8 191)], .agg [.lit (.int .u8 128), .lit (.int .u8 143)], .agg [.lit (.int .u8 0), .lit (.int .u8 0)], .agg [.lit (.int .u8 0), .lit (.int .u8 0)], .agg [.lit (.int .u8 0), .lit (.int .u8 0)], .agg [.lit (.int .u8 0), .lit (.int .u8 0)], .agg [.lit (.int .u8 0), .lit (.int .u8 0)], .agg [.lit (.int .u8 0), .lit (.int .u8 0)], .agg [.lit (.int .u8 0), .lit (.int .u8 0)], .agg [.lit (.int .u8 0), .lit (.int .u8 0)], .agg [.lit (.int .u8 0), .lit (.int .u8 0)], .agg [.lit (.int .u8 0), .lit (.int .u8 0)], .agg [.lit (.int .u8 0), .lit (.int .u8 0)]]
/-- One of Go's own tables, pinned by name: the form's constant. -/
def laid_unicode_utf8_first : DataW Unit := Go.Pinned.utf8First
def laid_vintner_value_kinds {H : Type} : DataW H := .iface "func table" (.agg [.iface "func" (.lit (.string [118, 105, 110, 116, 110, 101, 114, 47, 118, 97, 108, 117, 101, 46, 107, 105, 110, 100, 115, 36, 49])), .iface "func" (.lit (.string [118, 105, 110, 116, 110, 101, 114, 47, 118, 97, 108, 117, 101, 46, 107, 105, 110, 100, 115, 36, 50])), .iface "func" (.lit (.string [118, 105, 110, 116, 110, 101, 114, 47, 118, 97, 108, 117, 101, 46, 107, 105, 110, 100, 115, 36, 51]))])

/-- 'vintnerlaw19.PlanOrder': WHATEVER THE INPUT: true; the input reads as it did. -/
def planOrderSpec : ChangeSpec := { name := "planOrder", fn := fun _ => fun
  | [d1, d2, d3] => { results := [.lit (.bool true)], args := [d1, d2, d3] }
  | _ => none }
def planOrderRow : OpenClaim := { program := "ytajlngkakpjncaadoor", sum := "69a4994f1bc27fb1459e2b8977ceffca9c215523ef7ce022b7b9f2a5ffca8d4e", func := "vintner/vintnerlaw19.PlanOrder", spec := "planOrder", inPlace := ["internal/abi.NoEscape", "internal/bytealg.CountString", "internal/bytealg.IndexByteString", "internal/bytealg.IndexString", "internal/bytealg.MakeNoZero"], unfollowed := true, recurses := true, named := ["internal/bytealg.MaxLen", "unicode/utf8.first", "unicode/utf8.acceptRanges"], apart := false, laid := [("unicode/utf8.acceptRanges", laid_unicode_utf8_acceptRanges), ("unicode/utf8.first", laid_unicode_utf8_first)] }
def PlanOrderSaid : Prop := planOrderRow.holds Tryd.pinned (OpenSpec.ofChange planOrderSpec)

/-- ITS FALSE NEIGHBOUR: 'it returns false'. Refute it at one input. -/
def planOrderWrong : ChangeSpec := { name := "planOrder", fn := fun _ => fun
  | [d1, d2, d3] => { results := [.lit (.bool false)], args := [d1, d2, d3] }
  | _ => none }
def PlanOrderWrongFalsely : Prop := planOrderRow.holds Tryd.pinned (OpenSpec.ofChange planOrderWrong)

/-- 'vintnerlaw19.PlanMerges': WHATEVER THE INPUT: true; the input reads as it did. -/
def planMergesSpec : ChangeSpec := { name := "planMerges", fn := fun _ => fun
  | [d1, d2, d3] => { results := [.lit (.bool true)], args := [d1, d2, d3] }
  | _ => none }
def planMergesRow : OpenClaim := { program := "ytajlngkakpjncaadoor", sum := "69a4994f1bc27fb1459e2b8977ceffca9c215523ef7ce022b7b9f2a5ffca8d4e", func := "vintner/vintnerlaw19.PlanMerges", spec := "planMerges", inPlace := ["internal/abi.NoEscape", "internal/bytealg.CountString", "internal/bytealg.IndexByteString", "internal/bytealg.IndexString", "internal/bytealg.MakeNoZero"], unfollowed := true, recurses := true, named := ["internal/bytealg.MaxLen", "unicode/utf8.first", "unicode/utf8.acceptRanges"], apart := false, laid := [("unicode/utf8.acceptRanges", laid_unicode_utf8_acceptRanges), ("unicode/utf8.first", laid_unicode_utf8_first)] }
def PlanMergesSaid : Prop := planMergesRow.holds Tryd.pinned (OpenSpec.ofChange planMergesSpec)

/-- ITS FALSE NEIGHBOUR: 'it returns false'. Refute it at one input. -/
def planMergesWrong : ChangeSpec := { name := "planMerges", fn := fun _ => fun
  | [d1, d2, d3] => { results := [.lit (.bool false)], args := [d1, d2, d3] }
  | _ => none }
def PlanMergesWrongFalsely : Prop := planMergesRow.holds Tryd.pinned (OpenSpec.ofChange planMergesWrong)

/-- 'vintnerlaw19.PlanCovers': WHATEVER THE INPUT: true; the input reads as it did. -/
def planCoversSpec : ChangeSpec := { name := "planCovers", fn := fun _ => fun
  | [d1, d2] => { results := [.lit (.bool true)], args := [d1, d2] }
  | _ => none }
def planCoversRow : OpenClaim := { program := "ytajlngkakpjncaadoor", sum := "69a4994f1bc27fb1459e2b8977ceffca9c215523ef7ce022b7b9f2a5ffca8d4e", func := "vintner/vintnerlaw19.PlanCovers", spec := "planCovers", inPlace := ["internal/abi.NoEscape", "internal/bytealg.CountString", "internal/bytealg.IndexByteString", "internal/bytealg.IndexString", "internal/bytealg.MakeNoZero"], unfollowed := true, recurses := true, named := ["internal/bytealg.MaxLen", "unicode/utf8.first", "unicode/utf8.acceptRanges"], apart := false, laid := [("unicode/utf8.acceptRanges", laid_unicode_utf8_acceptRanges), ("unicode/utf8.first", laid_unicode_utf8_first)] }
def PlanCoversSaid : Prop := planCoversRow.holds Tryd.pinned (OpenSpec.ofChange planCoversSpec)

/-- ITS FALSE NEIGHBOUR: 'it returns false'. Refute it at one input. -/
def planCoversWrong : ChangeSpec := { name := "planCovers", fn := fun _ => fun
  | [d1, d2] => { results := [.lit (.bool false)], args := [d1, d2] }
  | _ => none }
def PlanCoversWrongFalsely : Prop := planCoversRow.holds Tryd.pinned (OpenSpec.ofChange planCoversWrong)

/-- 'vintnerlaw19.PlanRaw': WHATEVER THE INPUT: true; the input reads as it did. -/
def planRawSpec : ChangeSpec := { name := "planRaw", fn := fun _ => fun
  | [d1, d2, d3] => { results := [.lit (.bool true)], args := [d1, d2, d3] }
  | _ => none }
def planRawRow : OpenClaim := { program := "ytajlngkakpjncaadoor", sum := "69a4994f1bc27fb1459e2b8977ceffca9c215523ef7ce022b7b9f2a5ffca8d4e", func := "vintner/vintnerlaw19.PlanRaw", spec := "planRaw", inPlace := ["internal/abi.NoEscape", "internal/bytealg.CountString", "internal/bytealg.IndexByteString", "internal/bytealg.IndexString", "internal/bytealg.MakeNoZero"], unfollowed := true, recurses := true, named := ["internal/bytealg.MaxLen", "unicode/utf8.first", "unicode/utf8.acceptRanges"], apart := false, laid := [("unicode/utf8.acceptRanges", laid_unicode_utf8_acceptRanges), ("unicode/utf8.first", laid_unicode_utf8_first)] }
def PlanRawSaid : Prop := planRawRow.holds Tryd.pinned (OpenSpec.ofChange planRawSpec)

/-- ITS FALSE NEIGHBOUR: 'it returns false'. Refute it at one input. -/
def planRawWrong : ChangeSpec := { name := "planRaw", fn := fun _ => fun
  | [d1, d2, d3] => { results := [.lit (.bool false)], args := [d1, d2, d3] }
  | _ => none }
def PlanRawWrongFalsely : Prop := planRawRow.holds Tryd.pinned (OpenSpec.ofChange planRawWrong)

/-- 'vintnerlaw19.PlanLeast': WHATEVER THE INPUT: true; the input reads as it did. -/
def planLeastSpec : ChangeSpec := { name := "planLeast", fn := fun _ => fun
  | [d1, d2] => { results := [.lit (.bool true)], args := [d1, d2] }
  | _ => none }
def planLeastRow : OpenClaim := { program := "ytajlngkakpjncaadoor", sum := "69a4994f1bc27fb1459e2b8977ceffca9c215523ef7ce022b7b9f2a5ffca8d4e", func := "vintner/vintnerlaw19.PlanLeast", spec := "planLeast", inPlace := ["internal/abi.NoEscape", "internal/bytealg.CountString", "internal/bytealg.IndexByteString", "internal/bytealg.IndexString", "internal/bytealg.MakeNoZero"], unfollowed := true, recurses := true, named := ["internal/bytealg.MaxLen", "unicode/utf8.first", "unicode/utf8.acceptRanges"], apart := false, laid := [("unicode/utf8.acceptRanges", laid_unicode_utf8_acceptRanges), ("unicode/utf8.first", laid_unicode_utf8_first)] }
def PlanLeastSaid : Prop := planLeastRow.holds Tryd.pinned (OpenSpec.ofChange planLeastSpec)

/-- ITS FALSE NEIGHBOUR: 'it returns false'. Refute it at one input. -/
def planLeastWrong : ChangeSpec := { name := "planLeast", fn := fun _ => fun
  | [d1, d2] => { results := [.lit (.bool false)], args := [d1, d2] }
  | _ => none }
def PlanLeastWrongFalsely : Prop := planLeastRow.holds Tryd.pinned (OpenSpec.ofChange planLeastWrong)

/-- 'vintnerlaw19.PlanBounds': WHATEVER THE INPUT: true; the input reads as it did. -/
def planBoundsSpec : ChangeSpec := { name := "planBounds", fn := fun _ => fun
  | [d1, d2, d3] => { results := [.lit (.bool true)], args := [d1, d2, d3] }
  | _ => none }
def planBoundsRow : OpenClaim := { program := "ytajlngkakpjncaadoor", sum := "69a4994f1bc27fb1459e2b8977ceffca9c215523ef7ce022b7b9f2a5ffca8d4e", func := "vintner/vintnerlaw19.PlanBounds", spec := "planBounds", inPlace := ["internal/abi.NoEscape", "internal/bytealg.CountString", "internal/bytealg.IndexByteString", "internal/bytealg.IndexString", "internal/bytealg.MakeNoZero"], unfollowed := true, recurses := true, named := ["internal/bytealg.MaxLen", "unicode/utf8.first", "unicode/utf8.acceptRanges", "vintner/value.kinds"], apart := false, laid := [("unicode/utf8.acceptRanges", laid_unicode_utf8_acceptRanges), ("vintner/value.kinds", laid_vintner_value_kinds), ("unicode/utf8.first", laid_unicode_utf8_first)] }
def PlanBoundsSaid : Prop := planBoundsRow.holds Tryd.pinned (OpenSpec.ofChange planBoundsSpec)

/-- ITS FALSE NEIGHBOUR: 'it returns false'. Refute it at one input. -/
def planBoundsWrong : ChangeSpec := { name := "planBounds", fn := fun _ => fun
  | [d1, d2, d3] => { results := [.lit (.bool false)], args := [d1, d2, d3] }
  | _ => none }
def PlanBoundsWrongFalsely : Prop := planBoundsRow.holds Tryd.pinned (OpenSpec.ofChange planBoundsWrong)

/-- 'vintnerlaw19.PlanCounts': WHATEVER THE INPUT: true; the input reads as it did. -/
def planCountsSpec : ChangeSpec := { name := "planCounts", fn := fun _ => fun
  | [d1, d2, d3] => { results := [.lit (.bool true)], args := [d1, d2, d3] }
  | _ => none }
def planCountsRow : OpenClaim := { program := "ytajlngkakpjncaadoor", sum := "69a4994f1bc27fb1459e2b8977ceffca9c215523ef7ce022b7b9f2a5ffca8d4e", func := "vintner/vintnerlaw19.PlanCounts", spec := "planCounts", inPlace := ["internal/abi.NoEscape", "internal/bytealg.CountString", "internal/bytealg.IndexByteString", "internal/bytealg.IndexString", "internal/bytealg.MakeNoZero"], unfollowed := true, recurses := true, named := ["internal/bytealg.MaxLen", "unicode/utf8.first", "unicode/utf8.acceptRanges", "vintner/value.kinds"], apart := false, laid := [("unicode/utf8.acceptRanges", laid_unicode_utf8_acceptRanges), ("vintner/value.kinds", laid_vintner_value_kinds), ("unicode/utf8.first", laid_unicode_utf8_first)] }
def PlanCountsSaid : Prop := planCountsRow.holds Tryd.pinned (OpenSpec.ofChange planCountsSpec)

/-- ITS FALSE NEIGHBOUR: 'it returns false'. Refute it at one input. -/
def planCountsWrong : ChangeSpec := { name := "planCounts", fn := fun _ => fun
  | [d1, d2, d3] => { results := [.lit (.bool false)], args := [d1, d2, d3] }
  | _ => none }
def PlanCountsWrongFalsely : Prop := planCountsRow.holds Tryd.pinned (OpenSpec.ofChange planCountsWrong)

/- THE SECOND FORM. 'bulk': how many values and letters a reading holds, each counted each time it is reached (what is shared counts as often as it is met; a slice's spare places count too). A statement '..UptoSaid' is the law's where the arguments, and the package variables that the reading takes, are together of bulk at most 1048576: NARROWER than '..Said'. Prove '..Said' where nothing that the law and all that it calls make is longer than what came in: it says more and counts as full. Else prove '..UptoSaid'. A law counts once. -/
mutual
def uptoBulk {H : Type} : DataW H → Nat
  | .lit (.string bytes) => bytes.length + 1
  | .lit _ => 1
  | .nil => 1
  | .ptr d => uptoBulk d + 1
  | .slice elems spare => uptoBulkAll elems + uptoBulkAll spare + 1
  | .agg parts => uptoBulkAll parts + 1
  | .iface _ d => uptoBulk d + 1
  | .map entries => uptoBulkEntries entries + 1
  | .held _ => 1
def uptoBulkAll {H : Type} : List (DataW H) → Nat
  | [] => 0
  | d :: r => uptoBulk d + uptoBulkAll r
def uptoBulkEntries {H : Type} : List (Lit × DataW H) → Nat
  | [] => 0
  | x :: r => uptoBulkEntry x + uptoBulkEntries r
def uptoBulkEntry {H : Type} : Lit × DataW H → Nat
  | (.string bytes, d) => bytes.length + uptoBulk d + 1
  | (_, d) => uptoBulk d + 1
 end
def uptoSmall : (H : Type) → List (DataW H) → Bool := fun _ ds => decide (uptoBulkAll ds ≤ 1048576)
def OpenSpec.upto (s : _root_.Go.ChangeSpec) : _root_.Go.OpenSpec := { _root_.Go.OpenSpec.ofChange s with cond := some uptoSmall }

/-- 'vintnerlaw19.PlanOrder', WHERE WHAT IT READS IS OF BULK AT MOST 1048576: true; the input reads as it did. -/
def planOrderUptoRow : OpenClaim := { program := "ytajlngkakpjncaadoor", sum := "69a4994f1bc27fb1459e2b8977ceffca9c215523ef7ce022b7b9f2a5ffca8d4e", func := "vintner/vintnerlaw19.PlanOrder", spec := "planOrder", inPlace := ["internal/abi.NoEscape", "internal/bytealg.CountString", "internal/bytealg.IndexByteString", "internal/bytealg.IndexString", "internal/bytealg.MakeNoZero"], unfollowed := true, recurses := true, named := ["internal/bytealg.MaxLen", "unicode/utf8.first", "unicode/utf8.acceptRanges"], apart := false, laid := [("unicode/utf8.acceptRanges", laid_unicode_utf8_acceptRanges), ("unicode/utf8.first", laid_unicode_utf8_first)], narrowed := true }
def PlanOrderUptoSaid : Prop := planOrderUptoRow.holds Tryd.pinned (OpenSpec.upto planOrderSpec)

/-- 'vintnerlaw19.PlanMerges', WHERE WHAT IT READS IS OF BULK AT MOST 1048576: true; the input reads as it did. -/
def planMergesUptoRow : OpenClaim := { program := "ytajlngkakpjncaadoor", sum := "69a4994f1bc27fb1459e2b8977ceffca9c215523ef7ce022b7b9f2a5ffca8d4e", func := "vintner/vintnerlaw19.PlanMerges", spec := "planMerges", inPlace := ["internal/abi.NoEscape", "internal/bytealg.CountString", "internal/bytealg.IndexByteString", "internal/bytealg.IndexString", "internal/bytealg.MakeNoZero"], unfollowed := true, recurses := true, named := ["internal/bytealg.MaxLen", "unicode/utf8.first", "unicode/utf8.acceptRanges"], apart := false, laid := [("unicode/utf8.acceptRanges", laid_unicode_utf8_acceptRanges), ("unicode/utf8.first", laid_unicode_utf8_first)], narrowed := true }
def PlanMergesUptoSaid : Prop := planMergesUptoRow.holds Tryd.pinned (OpenSpec.upto planMergesSpec)

/-- 'vintnerlaw19.PlanCovers', WHERE WHAT IT READS IS OF BULK AT MOST 1048576: true; the input reads as it did. -/
def planCoversUptoRow : OpenClaim := { program := "ytajlngkakpjncaadoor", sum := "69a4994f1bc27fb1459e2b8977ceffca9c215523ef7ce022b7b9f2a5ffca8d4e", func := "vintner/vintnerlaw19.PlanCovers", spec := "planCovers", inPlace := ["internal/abi.NoEscape", "internal/bytealg.CountString", "internal/bytealg.IndexByteString", "internal/bytealg.IndexString", "internal/bytealg.MakeNoZero"], unfollowed := true, recurses := true, named := ["internal/bytealg.MaxLen", "unicode/utf8.first", "unicode/utf8.acceptRanges"], apart := false, laid := [("unicode/utf8.acceptRanges", laid_unicode_utf8_acceptRanges), ("unicode/utf8.first", laid_unicode_utf8_first)], narrowed := true }
def PlanCoversUptoSaid : Prop := planCoversUptoRow.holds Tryd.pinned (OpenSpec.upto planCoversSpec)

/-- 'vintnerlaw19.PlanRaw', WHERE WHAT IT READS IS OF BULK AT MOST 1048576: true; the input reads as it did. -/
def planRawUptoRow : OpenClaim := { program := "ytajlngkakpjncaadoor", sum := "69a4994f1bc27fb1459e2b8977ceffca9c215523ef7ce022b7b9f2a5ffca8d4e", func := "vintner/vintnerlaw19.PlanRaw", spec := "planRaw", inPlace := ["internal/abi.NoEscape", "internal/bytealg.CountString", "internal/bytealg.IndexByteString", "internal/bytealg.IndexString", "internal/bytealg.MakeNoZero"], unfollowed := true, recurses := true, named := ["internal/bytealg.MaxLen", "unicode/utf8.first", "unicode/utf8.acceptRanges"], apart := false, laid := [("unicode/utf8.acceptRanges", laid_unicode_utf8_acceptRanges), ("unicode/utf8.first", laid_unicode_utf8_first)], narrowed := true }
def PlanRawUptoSaid : Prop := planRawUptoRow.holds Tryd.pinned (OpenSpec.upto planRawSpec)

/-- 'vintnerlaw19.PlanLeast', WHERE WHAT IT READS IS OF BULK AT MOST 1048576: true; the input reads as it did. -/
def planLeastUptoRow : OpenClaim := { program := "ytajlngkakpjncaadoor", sum := "69a4994f1bc27fb1459e2b8977ceffca9c215523ef7ce022b7b9f2a5ffca8d4e", func := "vintner/vintnerlaw19.PlanLeast", spec := "planLeast", inPlace := ["internal/abi.NoEscape", "internal/bytealg.CountString", "internal/bytealg.IndexByteString", "internal/bytealg.IndexString", "internal/bytealg.MakeNoZero"], unfollowed := true, recurses := true, named := ["internal/bytealg.MaxLen", "unicode/utf8.first", "unicode/utf8.acceptRanges"], apart := false, laid := [("unicode/utf8.acceptRanges", laid_unicode_utf8_acceptRanges), ("unicode/utf8.first", laid_unicode_utf8_first)], narrowed := true }
def PlanLeastUptoSaid : Prop := planLeastUptoRow.holds Tryd.pinned (OpenSpec.upto planLeastSpec)

/-- 'vintnerlaw19.PlanBounds', WHERE WHAT IT READS IS OF BULK AT MOST 1048576: true; the input reads as it did. -/
def planBoundsUptoRow : OpenClaim := { program := "ytajlngkakpjncaadoor", sum := "69a4994f1bc27fb1459e2b8977ceffca9c215523ef7ce022b7b9f2a5ffca8d4e", func := "vintner/vintnerlaw19.PlanBounds", spec := "planBounds", inPlace := ["internal/abi.NoEscape", "internal/bytealg.CountString", "internal/bytealg.IndexByteString", "internal/bytealg.IndexString", "internal/bytealg.MakeNoZero"], unfollowed := true, recurses := true, named := ["internal/bytealg.MaxLen", "unicode/utf8.first", "unicode/utf8.acceptRanges", "vintner/value.kinds"], apart := false, laid := [("unicode/utf8.acceptRanges", laid_unicode_utf8_acceptRanges), ("vintner/value.kinds", laid_vintner_value_kinds), ("unicode/utf8.first", laid_unicode_utf8_first)], narrowed := true }
def PlanBoundsUptoSaid : Prop := planBoundsUptoRow.holds Tryd.pinned (OpenSpec.upto planBoundsSpec)

/-- 'vintnerlaw19.PlanCounts', WHERE WHAT IT READS IS OF BULK AT MOST 1048576: true; the input reads as it did. -/
def planCountsUptoRow : OpenClaim := { program := "ytajlngkakpjncaadoor", sum := "69a4994f1bc27fb1459e2b8977ceffca9c215523ef7ce022b7b9f2a5ffca8d4e", func := "vintner/vintnerlaw19.PlanCounts", spec := "planCounts", inPlace := ["internal/abi.NoEscape", "internal/bytealg.CountString", "internal/bytealg.IndexByteString", "internal/bytealg.IndexString", "internal/bytealg.MakeNoZero"], unfollowed := true, recurses := true, named := ["internal/bytealg.MaxLen", "unicode/utf8.first", "unicode/utf8.acceptRanges", "vintner/value.kinds"], apart := false, laid := [("unicode/utf8.acceptRanges", laid_unicode_utf8_acceptRanges), ("vintner/value.kinds", laid_vintner_value_kinds), ("unicode/utf8.first", laid_unicode_utf8_first)], narrowed := true }
def PlanCountsUptoSaid : Prop := planCountsUptoRow.holds Tryd.pinned (OpenSpec.upto planCountsSpec)

end Rows
end Go.Proofs.YtajlngkakpjncaaDoor
