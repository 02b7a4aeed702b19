/-
  NARROWER THAN 'FOR EVERY INPUT', by the rows' own cells (each row's printed sentence says how): PlainDoes: laid · PlainRaw: laid · PlainParts: laid · PlainJoins: laid · PlainAggregates: laid · PlainSorted: laid · PlainAlike: laid · PlainChanges: laid · PlainOrders: laid · PlainOwn: laid.
  DERIVED. THE GIVEN ROWS OF THIS SEAT. 10 by the template 'for every input the law returns true; each argument reads behind the call as it read before'; 0 by the template 'total and deterministic' (their statements: YtgemihkcihigpaaGreatDoorTotals.lean).
  GIVEN WITH THE SEED: the statements are not yours to turn. If you find one false, say at which input.
  Laid BY PROGRAM, IN A SANDBOX (cutbox-rows.mjs): the forced cells as the released guide's own fill.sh prints them over the translation 9710d18d35e73abd… (all of the seat's roots in one cut). By AI agents, Wed Nov 11 2026. No macro, syntax, notation, axiom, sorry.
-/
import Derived.Test.YtgemihkcihigpaaGreatDoorChecked
import GoSem.Claim
import GoSem.ClaimJoined
import GoSem.ClaimMapViews
import Derived.JoinedTies
import Derived.KernelRfl
namespace Go.Proofs.YtgemihkcihigpaaGreatDoor
/- THE CELL 'sum', in the pinned program and in every row, IS THE sha256 OF THE DUMP (.gsa) THAT YtgemihkcihigpaaGreatDoorProg.lean LOADS. Nothing in Lean hashes anything: it is a label: what it is worth is what the hold of that sum in a sandbox is worth. -/
noncomputable def Tryz.pinned : Pinned := { name := "ytgemihkcihigpaagreatdoor", sum := "9710d18d35e73abdfa9536bfa7a0dee9d147b15e4c0f53b4f60236e79fd37cc0", checked := Tryz.checked }
namespace Rows
def none {H : Type} : Left H := { results := [], args := [] }

/- WHAT THE LISTED PACKAGE-LEVEL VARIABLES READ AS WHEN THE CALL BEGINS. Each datum BY PROGRAM (the guide's laid-datum.mjs) off the statement by which the dump's own 'gosem.cut.vars' lays the variable. In a bare row this is a premise. The card (YtgemihkcihigpaaGreatDoorCards.lean) ties it to the program's text. -/
def laid_vintner_value_kinds {H : Type} : DataW H := .iface "func table" (.agg [.iface "func" (.lit (.string [118, 105, 110, 116, 110, 101, 114, 47, 118, 97, 108, 117, 101, 46, 107, 105, 110, 100, 115, 36, 49])), .iface "func" (.lit (.string [118, 105, 110, 116, 110, 101, 114, 47, 118, 97, 108, 117, 101, 46, 107, 105, 110, 100, 115, 36, 50])), .iface "func" (.lit (.string [118, 105, 110, 116, 110, 101, 114, 47, 118, 97, 108, 117, 101, 46, 107, 105, 110, 100, 115, 36, 51]))])

/-- 'vintnerlaw18.PlainDoes': WHATEVER THE INPUT: true; the input reads as it did. -/
def plainDoesSpec : ChangeSpec := { name := "plainDoes", fn := fun _ => fun
  | [d] => { results := [.lit (.bool true)], args := [d] }
  | _ => none }
def plainDoesRow : OpenClaim := { program := "ytgemihkcihigpaagreatdoor", sum := "9710d18d35e73abdfa9536bfa7a0dee9d147b15e4c0f53b4f60236e79fd37cc0", func := "vintner/vintnerlaw18.PlainDoes", spec := "plainDoes", unfollowed := true, recurses := true, named := ["vintner/value.kinds"], apart := false, laid := [("vintner/value.kinds", laid_vintner_value_kinds)] }
def PlainDoesSaid : Prop := plainDoesRow.holds Tryz.pinned (OpenSpec.ofChange plainDoesSpec)

/-- ITS FALSE NEIGHBOUR: 'it returns false'. Refute it at one input. -/
def plainDoesWrong : ChangeSpec := { name := "plainDoes", fn := fun _ => fun
  | [d] => { results := [.lit (.bool false)], args := [d] }
  | _ => none }
def PlainDoesWrongFalsely : Prop := plainDoesRow.holds Tryz.pinned (OpenSpec.ofChange plainDoesWrong)

/-- 'vintnerlaw18.PlainRaw': WHATEVER THE INPUT: true; the input reads as it did. -/
def plainRawSpec : ChangeSpec := { name := "plainRaw", fn := fun _ => fun
  | [d1, d2] => { results := [.lit (.bool true)], args := [d1, d2] }
  | _ => none }
def plainRawRow : OpenClaim := { program := "ytgemihkcihigpaagreatdoor", sum := "9710d18d35e73abdfa9536bfa7a0dee9d147b15e4c0f53b4f60236e79fd37cc0", func := "vintner/vintnerlaw18.PlainRaw", spec := "plainRaw", unfollowed := true, recurses := true, named := ["vintner/value.kinds"], apart := false, laid := [("vintner/value.kinds", laid_vintner_value_kinds)] }
def PlainRawSaid : Prop := plainRawRow.holds Tryz.pinned (OpenSpec.ofChange plainRawSpec)

/-- ITS FALSE NEIGHBOUR: 'it returns false'. Refute it at one input. -/
def plainRawWrong : ChangeSpec := { name := "plainRaw", fn := fun _ => fun
  | [d1, d2] => { results := [.lit (.bool false)], args := [d1, d2] }
  | _ => none }
def PlainRawWrongFalsely : Prop := plainRawRow.holds Tryz.pinned (OpenSpec.ofChange plainRawWrong)

/-- 'vintnerlaw18.PlainParts': WHATEVER THE INPUT: true; the input reads as it did. -/
def plainPartsSpec : ChangeSpec := { name := "plainParts", fn := fun _ => fun
  | [d1, d2, d3] => { results := [.lit (.bool true)], args := [d1, d2, d3] }
  | _ => none }
def plainPartsRow : OpenClaim := { program := "ytgemihkcihigpaagreatdoor", sum := "9710d18d35e73abdfa9536bfa7a0dee9d147b15e4c0f53b4f60236e79fd37cc0", func := "vintner/vintnerlaw18.PlainParts", spec := "plainParts", unfollowed := true, recurses := true, named := ["vintner/value.kinds"], apart := false, laid := [("vintner/value.kinds", laid_vintner_value_kinds)] }
def PlainPartsSaid : Prop := plainPartsRow.holds Tryz.pinned (OpenSpec.ofChange plainPartsSpec)

/-- ITS FALSE NEIGHBOUR: 'it returns false'. Refute it at one input. -/
def plainPartsWrong : ChangeSpec := { name := "plainParts", fn := fun _ => fun
  | [d1, d2, d3] => { results := [.lit (.bool false)], args := [d1, d2, d3] }
  | _ => none }
def PlainPartsWrongFalsely : Prop := plainPartsRow.holds Tryz.pinned (OpenSpec.ofChange plainPartsWrong)

/-- 'vintnerlaw18.PlainJoins': WHATEVER THE INPUT: true; the input reads as it did. -/
def plainJoinsSpec : ChangeSpec := { name := "plainJoins", fn := fun _ => fun
  | [d] => { results := [.lit (.bool true)], args := [d] }
  | _ => none }
def plainJoinsRow : OpenClaim := { program := "ytgemihkcihigpaagreatdoor", sum := "9710d18d35e73abdfa9536bfa7a0dee9d147b15e4c0f53b4f60236e79fd37cc0", func := "vintner/vintnerlaw18.PlainJoins", spec := "plainJoins", unfollowed := true, recurses := true, named := ["vintner/value.kinds"], apart := false, laid := [("vintner/value.kinds", laid_vintner_value_kinds)] }
def PlainJoinsSaid : Prop := plainJoinsRow.holds Tryz.pinned (OpenSpec.ofChange plainJoinsSpec)

/-- ITS FALSE NEIGHBOUR: 'it returns false'. Refute it at one input. -/
def plainJoinsWrong : ChangeSpec := { name := "plainJoins", fn := fun _ => fun
  | [d] => { results := [.lit (.bool false)], args := [d] }
  | _ => none }
def PlainJoinsWrongFalsely : Prop := plainJoinsRow.holds Tryz.pinned (OpenSpec.ofChange plainJoinsWrong)

/-- 'vintnerlaw18.PlainAggregates': WHATEVER THE INPUT: true; the input reads as it did. -/
def plainAggregatesSpec : ChangeSpec := { name := "plainAggregates", fn := fun _ => fun
  | [d1, d2] => { results := [.lit (.bool true)], args := [d1, d2] }
  | _ => none }
def plainAggregatesRow : OpenClaim := { program := "ytgemihkcihigpaagreatdoor", sum := "9710d18d35e73abdfa9536bfa7a0dee9d147b15e4c0f53b4f60236e79fd37cc0", func := "vintner/vintnerlaw18.PlainAggregates", spec := "plainAggregates", unfollowed := true, recurses := true, named := ["vintner/value.kinds"], apart := false, laid := [("vintner/value.kinds", laid_vintner_value_kinds)] }
def PlainAggregatesSaid : Prop := plainAggregatesRow.holds Tryz.pinned (OpenSpec.ofChange plainAggregatesSpec)

/-- ITS FALSE NEIGHBOUR: 'it returns false'. Refute it at one input. -/
def plainAggregatesWrong : ChangeSpec := { name := "plainAggregates", fn := fun _ => fun
  | [d1, d2] => { results := [.lit (.bool false)], args := [d1, d2] }
  | _ => none }
def PlainAggregatesWrongFalsely : Prop := plainAggregatesRow.holds Tryz.pinned (OpenSpec.ofChange plainAggregatesWrong)

/-- 'vintnerlaw18.PlainSorted': WHATEVER THE INPUT: true; the input reads as it did. -/
def plainSortedSpec : ChangeSpec := { name := "plainSorted", fn := fun _ => fun
  | [d1, d2, d3] => { results := [.lit (.bool true)], args := [d1, d2, d3] }
  | _ => none }
def plainSortedRow : OpenClaim := { program := "ytgemihkcihigpaagreatdoor", sum := "9710d18d35e73abdfa9536bfa7a0dee9d147b15e4c0f53b4f60236e79fd37cc0", func := "vintner/vintnerlaw18.PlainSorted", spec := "plainSorted", unfollowed := true, recurses := true, named := ["vintner/value.kinds"], apart := false, laid := [("vintner/value.kinds", laid_vintner_value_kinds)] }
def PlainSortedSaid : Prop := plainSortedRow.holds Tryz.pinned (OpenSpec.ofChange plainSortedSpec)

/-- ITS FALSE NEIGHBOUR: 'it returns false'. Refute it at one input. -/
def plainSortedWrong : ChangeSpec := { name := "plainSorted", fn := fun _ => fun
  | [d1, d2, d3] => { results := [.lit (.bool false)], args := [d1, d2, d3] }
  | _ => none }
def PlainSortedWrongFalsely : Prop := plainSortedRow.holds Tryz.pinned (OpenSpec.ofChange plainSortedWrong)

/-- 'vintnerlaw18.PlainAlike': WHATEVER THE INPUT: true; the input reads as it did. -/
def plainAlikeSpec : ChangeSpec := { name := "plainAlike", fn := fun _ => fun
  | [d1, d2, d3] => { results := [.lit (.bool true)], args := [d1, d2, d3] }
  | _ => none }
def plainAlikeRow : OpenClaim := { program := "ytgemihkcihigpaagreatdoor", sum := "9710d18d35e73abdfa9536bfa7a0dee9d147b15e4c0f53b4f60236e79fd37cc0", func := "vintner/vintnerlaw18.PlainAlike", spec := "plainAlike", unfollowed := true, recurses := true, named := ["vintner/value.kinds"], apart := false, laid := [("vintner/value.kinds", laid_vintner_value_kinds)] }
def PlainAlikeSaid : Prop := plainAlikeRow.holds Tryz.pinned (OpenSpec.ofChange plainAlikeSpec)

/-- ITS FALSE NEIGHBOUR: 'it returns false'. Refute it at one input. -/
def plainAlikeWrong : ChangeSpec := { name := "plainAlike", fn := fun _ => fun
  | [d1, d2, d3] => { results := [.lit (.bool false)], args := [d1, d2, d3] }
  | _ => none }
def PlainAlikeWrongFalsely : Prop := plainAlikeRow.holds Tryz.pinned (OpenSpec.ofChange plainAlikeWrong)

/-- 'vintnerlaw18.PlainChanges': WHATEVER THE INPUT: true; the input reads as it did. -/
def plainChangesSpec : ChangeSpec := { name := "plainChanges", fn := fun _ => fun
  | [d1, d2, d3] => { results := [.lit (.bool true)], args := [d1, d2, d3] }
  | _ => none }
def plainChangesRow : OpenClaim := { program := "ytgemihkcihigpaagreatdoor", sum := "9710d18d35e73abdfa9536bfa7a0dee9d147b15e4c0f53b4f60236e79fd37cc0", func := "vintner/vintnerlaw18.PlainChanges", spec := "plainChanges", unfollowed := true, recurses := true, named := ["vintner/value.kinds"], apart := false, laid := [("vintner/value.kinds", laid_vintner_value_kinds)] }
def PlainChangesSaid : Prop := plainChangesRow.holds Tryz.pinned (OpenSpec.ofChange plainChangesSpec)

/-- ITS FALSE NEIGHBOUR: 'it returns false'. Refute it at one input. -/
def plainChangesWrong : ChangeSpec := { name := "plainChanges", fn := fun _ => fun
  | [d1, d2, d3] => { results := [.lit (.bool false)], args := [d1, d2, d3] }
  | _ => none }
def PlainChangesWrongFalsely : Prop := plainChangesRow.holds Tryz.pinned (OpenSpec.ofChange plainChangesWrong)

/-- 'vintnerlaw18.PlainOrders': WHATEVER THE INPUT: true; the input reads as it did. -/
def plainOrdersSpec : ChangeSpec := { name := "plainOrders", fn := fun _ => fun
  | [d1, d2] => { results := [.lit (.bool true)], args := [d1, d2] }
  | _ => none }
def plainOrdersRow : OpenClaim := { program := "ytgemihkcihigpaagreatdoor", sum := "9710d18d35e73abdfa9536bfa7a0dee9d147b15e4c0f53b4f60236e79fd37cc0", func := "vintner/vintnerlaw18.PlainOrders", spec := "plainOrders", unfollowed := true, recurses := true, named := ["vintner/value.kinds"], apart := false, laid := [("vintner/value.kinds", laid_vintner_value_kinds)] }
def PlainOrdersSaid : Prop := plainOrdersRow.holds Tryz.pinned (OpenSpec.ofChange plainOrdersSpec)

/-- ITS FALSE NEIGHBOUR: 'it returns false'. Refute it at one input. -/
def plainOrdersWrong : ChangeSpec := { name := "plainOrders", fn := fun _ => fun
  | [d1, d2] => { results := [.lit (.bool false)], args := [d1, d2] }
  | _ => none }
def PlainOrdersWrongFalsely : Prop := plainOrdersRow.holds Tryz.pinned (OpenSpec.ofChange plainOrdersWrong)

/-- 'vintnerlaw18.PlainOwn': WHATEVER THE INPUT: true; the input reads as it did. -/
def plainOwnSpec : ChangeSpec := { name := "plainOwn", fn := fun _ => fun
  | [d1, d2, d3] => { results := [.lit (.bool true)], args := [d1, d2, d3] }
  | _ => none }
def plainOwnRow : OpenClaim := { program := "ytgemihkcihigpaagreatdoor", sum := "9710d18d35e73abdfa9536bfa7a0dee9d147b15e4c0f53b4f60236e79fd37cc0", func := "vintner/vintnerlaw18.PlainOwn", spec := "plainOwn", unfollowed := true, recurses := true, named := ["vintner/value.kinds"], apart := false, laid := [("vintner/value.kinds", laid_vintner_value_kinds)] }
def PlainOwnSaid : Prop := plainOwnRow.holds Tryz.pinned (OpenSpec.ofChange plainOwnSpec)

/-- ITS FALSE NEIGHBOUR: 'it returns false'. Refute it at one input. -/
def plainOwnWrong : ChangeSpec := { name := "plainOwn", fn := fun _ => fun
  | [d1, d2, d3] => { results := [.lit (.bool false)], args := [d1, d2, d3] }
  | _ => none }
def PlainOwnWrongFalsely : Prop := plainOwnRow.holds Tryz.pinned (OpenSpec.ofChange plainOwnWrong)

/- THE SECOND FORM. 'bulk': how many values and letters a reading holds, each counted each time it is reached (what is shared counts as often as it is met; a slice's spare places count too). A statement '..UptoSaid' is the law's where the arguments, and the package variables that the reading takes, are together of bulk at most 1048576: NARROWER than '..Said'. Prove '..Said' where nothing that the law and all that it calls make is longer than what came in: it says more and counts as full. Else prove '..UptoSaid'. A law counts once. -/
mutual
def uptoBulk {H : Type} : DataW H → Nat
  | .lit (.string bytes) => bytes.length + 1
  | .lit _ => 1
  | .nil => 1
  | .ptr d => uptoBulk d + 1
  | .slice elems spare => uptoBulkAll elems + uptoBulkAll spare + 1
  | .agg parts => uptoBulkAll parts + 1
  | .iface _ d => uptoBulk d + 1
  | .map entries => uptoBulkEntries entries + 1
  | .held _ => 1
def uptoBulkAll {H : Type} : List (DataW H) → Nat
  | [] => 0
  | d :: r => uptoBulk d + uptoBulkAll r
def uptoBulkEntries {H : Type} : List (Lit × DataW H) → Nat
  | [] => 0
  | x :: r => uptoBulkEntry x + uptoBulkEntries r
def uptoBulkEntry {H : Type} : Lit × DataW H → Nat
  | (.string bytes, d) => bytes.length + uptoBulk d + 1
  | (_, d) => uptoBulk d + 1
 end
def uptoSmall : (H : Type) → List (DataW H) → Bool := fun _ ds => decide (uptoBulkAll ds ≤ 1048576)
def OpenSpec.upto (s : _root_.Go.ChangeSpec) : _root_.Go.OpenSpec := { _root_.Go.OpenSpec.ofChange s with cond := some uptoSmall }

/-- 'vintnerlaw18.PlainDoes', WHERE WHAT IT READS IS OF BULK AT MOST 1048576: true; the input reads as it did. -/
def plainDoesUptoRow : OpenClaim := { program := "ytgemihkcihigpaagreatdoor", sum := "9710d18d35e73abdfa9536bfa7a0dee9d147b15e4c0f53b4f60236e79fd37cc0", func := "vintner/vintnerlaw18.PlainDoes", spec := "plainDoes", unfollowed := true, recurses := true, named := ["vintner/value.kinds"], apart := false, laid := [("vintner/value.kinds", laid_vintner_value_kinds)], narrowed := true }
def PlainDoesUptoSaid : Prop := plainDoesUptoRow.holds Tryz.pinned (OpenSpec.upto plainDoesSpec)

/-- 'vintnerlaw18.PlainRaw', WHERE WHAT IT READS IS OF BULK AT MOST 1048576: true; the input reads as it did. -/
def plainRawUptoRow : OpenClaim := { program := "ytgemihkcihigpaagreatdoor", sum := "9710d18d35e73abdfa9536bfa7a0dee9d147b15e4c0f53b4f60236e79fd37cc0", func := "vintner/vintnerlaw18.PlainRaw", spec := "plainRaw", unfollowed := true, recurses := true, named := ["vintner/value.kinds"], apart := false, laid := [("vintner/value.kinds", laid_vintner_value_kinds)], narrowed := true }
def PlainRawUptoSaid : Prop := plainRawUptoRow.holds Tryz.pinned (OpenSpec.upto plainRawSpec)

/-- 'vintnerlaw18.PlainParts', WHERE WHAT IT READS IS OF BULK AT MOST 1048576: true; the input reads as it did. -/
def plainPartsUptoRow : OpenClaim := { program := "ytgemihkcihigpaagreatdoor", sum := "9710d18d35e73abdfa9536bfa7a0dee9d147b15e4c0f53b4f60236e79fd37cc0", func := "vintner/vintnerlaw18.PlainParts", spec := "plainParts", unfollowed := true, recurses := true, named := ["vintner/value.kinds"], apart := false, laid := [("vintner/value.kinds", laid_vintner_value_kinds)], narrowed := true }
def PlainPartsUptoSaid : Prop := plainPartsUptoRow.holds Tryz.pinned (OpenSpec.upto plainPartsSpec)

/-- 'vintnerlaw18.PlainJoins', WHERE WHAT IT READS IS OF BULK AT MOST 1048576: true; the input reads as it did. -/
def plainJoinsUptoRow : OpenClaim := { program := "ytgemihkcihigpaagreatdoor", sum := "9710d18d35e73abdfa9536bfa7a0dee9d147b15e4c0f53b4f60236e79fd37cc0", func := "vintner/vintnerlaw18.PlainJoins", spec := "plainJoins", unfollowed := true, recurses := true, named := ["vintner/value.kinds"], apart := false, laid := [("vintner/value.kinds", laid_vintner_value_kinds)], narrowed := true }
def PlainJoinsUptoSaid : Prop := plainJoinsUptoRow.holds Tryz.pinned (OpenSpec.upto plainJoinsSpec)

/-- 'vintnerlaw18.PlainAggregates', WHERE WHAT IT READS IS OF BULK AT MOST 1048576: true; the input reads as it did. -/
def plainAggregatesUptoRow : OpenClaim := { program := "ytgemihkcihigpaagreatdoor", sum := "9710d18d35e73abdfa9536bfa7a0dee9d147b15e4c0f53b4f60236e79fd37cc0", func := "vintner/vintnerlaw18.PlainAggregates", spec := "plainAggregates", unfollowed := true, recurses := true, named := ["vintner/value.kinds"], apart := false, laid := [("vintner/value.kinds", laid_vintner_value_kinds)], narrowed := true }
def PlainAggregatesUptoSaid : Prop := plainAggregatesUptoRow.holds Tryz.pinned (OpenSpec.upto plainAggregatesSpec)

/-- 'vintnerlaw18.PlainSorted', WHERE WHAT IT READS IS OF BULK AT MOST 1048576: true; the input reads as it did. -/
def plainSortedUptoRow : OpenClaim := { program := "ytgemihkcihigpaagreatdoor", sum := "9710d18d35e73abdfa9536bfa7a0dee9d147b15e4c0f53b4f60236e79fd37cc0", func := "vintner/vintnerlaw18.PlainSorted", spec := "plainSorted", unfollowed := true, recurses := true, named := ["vintner/value.kinds"], apart := false, laid := [("vintner/value.kinds", laid_vintner_value_kinds)], narrowed := true }
def PlainSortedUptoSaid : Prop := plainSortedUptoRow.holds Tryz.pinned (OpenSpec.upto plainSortedSpec)

/-- 'vintnerlaw18.PlainAlike', WHERE WHAT IT READS IS OF BULK AT MOST 1048576: true; the input reads as it did. -/
def plainAlikeUptoRow : OpenClaim := { program := "ytgemihkcihigpaagreatdoor", sum := "9710d18d35e73abdfa9536bfa7a0dee9d147b15e4c0f53b4f60236e79fd37cc0", func := "vintner/vintnerlaw18.PlainAlike", spec := "plainAlike", unfollowed := true, recurses := true, named := ["vintner/value.kinds"], apart := false, laid := [("vintner/value.kinds", laid_vintner_value_kinds)], narrowed := true }
def PlainAlikeUptoSaid : Prop := plainAlikeUptoRow.holds Tryz.pinned (OpenSpec.upto plainAlikeSpec)

/-- 'vintnerlaw18.PlainChanges', WHERE WHAT IT READS IS OF BULK AT MOST 1048576: true; the input reads as it did. -/
def plainChangesUptoRow : OpenClaim := { program := "ytgemihkcihigpaagreatdoor", sum := "9710d18d35e73abdfa9536bfa7a0dee9d147b15e4c0f53b4f60236e79fd37cc0", func := "vintner/vintnerlaw18.PlainChanges", spec := "plainChanges", unfollowed := true, recurses := true, named := ["vintner/value.kinds"], apart := false, laid := [("vintner/value.kinds", laid_vintner_value_kinds)], narrowed := true }
def PlainChangesUptoSaid : Prop := plainChangesUptoRow.holds Tryz.pinned (OpenSpec.upto plainChangesSpec)

/-- 'vintnerlaw18.PlainOrders', WHERE WHAT IT READS IS OF BULK AT MOST 1048576: true; the input reads as it did. -/
def plainOrdersUptoRow : OpenClaim := { program := "ytgemihkcihigpaagreatdoor", sum := "9710d18d35e73abdfa9536bfa7a0dee9d147b15e4c0f53b4f60236e79fd37cc0", func := "vintner/vintnerlaw18.PlainOrders", spec := "plainOrders", unfollowed := true, recurses := true, named := ["vintner/value.kinds"], apart := false, laid := [("vintner/value.kinds", laid_vintner_value_kinds)], narrowed := true }
def PlainOrdersUptoSaid : Prop := plainOrdersUptoRow.holds Tryz.pinned (OpenSpec.upto plainOrdersSpec)

/-- 'vintnerlaw18.PlainOwn', WHERE WHAT IT READS IS OF BULK AT MOST 1048576: true; the input reads as it did. -/
def plainOwnUptoRow : OpenClaim := { program := "ytgemihkcihigpaagreatdoor", sum := "9710d18d35e73abdfa9536bfa7a0dee9d147b15e4c0f53b4f60236e79fd37cc0", func := "vintner/vintnerlaw18.PlainOwn", spec := "plainOwn", unfollowed := true, recurses := true, named := ["vintner/value.kinds"], apart := false, laid := [("vintner/value.kinds", laid_vintner_value_kinds)], narrowed := true }
def PlainOwnUptoSaid : Prop := plainOwnUptoRow.holds Tryz.pinned (OpenSpec.upto plainOwnSpec)

end Rows
end Go.Proofs.YtgemihkcihigpaaGreatDoor
