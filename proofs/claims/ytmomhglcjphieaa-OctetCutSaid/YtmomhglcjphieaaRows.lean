/-
  No cell of these rows narrows 'for every input' (looked for: loops, veiled, ifaces, maps, wideKeys, modest, calm, conditions, laid).
  DERIVED. THE GIVEN ROWS OF THIS SEAT. 10 by the template 'for every input the law returns true; each argument reads behind the call as it read before'; 0 by the template 'total and deterministic' (their statements: YtmomhglcjphieaaTotals.lean).
  GIVEN WITH THE SEED: the statements are not yours to turn. If you find one false, say at which input.
  Laid BY PROGRAM, IN A SANDBOX (cutbox-rows.mjs): the forced cells as the released guide's own fill.sh prints them over the translation 57dfbb39a19c9fcd… (all of the seat's roots in one cut). By AI agents, Wed Nov 11 2026. No macro, syntax, notation, axiom, sorry.
-/
import Derived.Test.YtmomhglcjphieaaChecked
import GoSem.Claim
import GoSem.ClaimJoined
import GoSem.ClaimMapViews
import Derived.JoinedTies
import Derived.KernelRfl
namespace Go.Proofs.Ytmomhglcjphieaa
/- THE CELL 'sum', in the pinned program and in every row, IS THE sha256 OF THE DUMP (.gsa) THAT YtmomhglcjphieaaProg.lean LOADS. Nothing in Lean hashes anything: it is a label: what it is worth is what the hold of that sum in a sandbox is worth. -/
noncomputable def Try.pinned : Pinned := { name := "ytmomhglcjphieaa", sum := "57dfbb39a19c9fcdf50a598acb0fbfcce59891fd99b48d176cd2d20d4aceef91", checked := Try.checked }
namespace Rows
def none {H : Type} : Left H := { results := [], args := [] }

/-- 'vintnerlaw01.OctetPuts': WHATEVER THE INPUT: true; the input reads as it did. -/
def octetPutsSpec : ChangeSpec := { name := "octetPuts", fn := fun _ => fun
  | [d1, d2, d3] => { results := [.lit (.bool true)], args := [d1, d2, d3] }
  | _ => none }
def octetPutsRow : OpenClaim := { program := "ytmomhglcjphieaa", sum := "57dfbb39a19c9fcdf50a598acb0fbfcce59891fd99b48d176cd2d20d4aceef91", func := "vintner/vintnerlaw01.OctetPuts", spec := "octetPuts", unfollowed := true, recurses := true, apart := false }
def OctetPutsSaid : Prop := octetPutsRow.holds Try.pinned (OpenSpec.ofChange octetPutsSpec)

/-- ITS FALSE NEIGHBOUR: 'it returns false'. Refute it at one input. -/
def octetPutsWrong : ChangeSpec := { name := "octetPuts", fn := fun _ => fun
  | [d1, d2, d3] => { results := [.lit (.bool false)], args := [d1, d2, d3] }
  | _ => none }
def OctetPutsWrongFalsely : Prop := octetPutsRow.holds Try.pinned (OpenSpec.ofChange octetPutsWrong)

/-- 'vintnerlaw01.OctetSees': WHATEVER THE INPUT: true; the input reads as it did. -/
def octetSeesSpec : ChangeSpec := { name := "octetSees", fn := fun _ => fun
  | [d1, d2, d3] => { results := [.lit (.bool true)], args := [d1, d2, d3] }
  | _ => none }
def octetSeesRow : OpenClaim := { program := "ytmomhglcjphieaa", sum := "57dfbb39a19c9fcdf50a598acb0fbfcce59891fd99b48d176cd2d20d4aceef91", func := "vintner/vintnerlaw01.OctetSees", spec := "octetSees", unfollowed := true, recurses := true, apart := false }
def OctetSeesSaid : Prop := octetSeesRow.holds Try.pinned (OpenSpec.ofChange octetSeesSpec)

/-- ITS FALSE NEIGHBOUR: 'it returns false'. Refute it at one input. -/
def octetSeesWrong : ChangeSpec := { name := "octetSees", fn := fun _ => fun
  | [d1, d2, d3] => { results := [.lit (.bool false)], args := [d1, d2, d3] }
  | _ => none }
def OctetSeesWrongFalsely : Prop := octetSeesRow.holds Try.pinned (OpenSpec.ofChange octetSeesWrong)

/-- 'vintnerlaw01.OctetOrder': WHATEVER THE INPUT: true; the input reads as it did. -/
def octetOrderSpec : ChangeSpec := { name := "octetOrder", fn := fun _ => fun
  | [d1, d2, d3] => { results := [.lit (.bool true)], args := [d1, d2, d3] }
  | _ => none }
def octetOrderRow : OpenClaim := { program := "ytmomhglcjphieaa", sum := "57dfbb39a19c9fcdf50a598acb0fbfcce59891fd99b48d176cd2d20d4aceef91", func := "vintner/vintnerlaw01.OctetOrder", spec := "octetOrder", unfollowed := true, recurses := true, apart := false }
def OctetOrderSaid : Prop := octetOrderRow.holds Try.pinned (OpenSpec.ofChange octetOrderSpec)

/-- ITS FALSE NEIGHBOUR: 'it returns false'. Refute it at one input. -/
def octetOrderWrong : ChangeSpec := { name := "octetOrder", fn := fun _ => fun
  | [d1, d2, d3] => { results := [.lit (.bool false)], args := [d1, d2, d3] }
  | _ => none }
def OctetOrderWrongFalsely : Prop := octetOrderRow.holds Try.pinned (OpenSpec.ofChange octetOrderWrong)

/-- 'vintnerlaw01.OctetSizes': WHATEVER THE INPUT: true; the input reads as it did. -/
def octetSizesSpec : ChangeSpec := { name := "octetSizes", fn := fun _ => fun
  | [d1, d2, d3] => { results := [.lit (.bool true)], args := [d1, d2, d3] }
  | _ => none }
def octetSizesRow : OpenClaim := { program := "ytmomhglcjphieaa", sum := "57dfbb39a19c9fcdf50a598acb0fbfcce59891fd99b48d176cd2d20d4aceef91", func := "vintner/vintnerlaw01.OctetSizes", spec := "octetSizes", unfollowed := true, recurses := true, apart := false }
def OctetSizesSaid : Prop := octetSizesRow.holds Try.pinned (OpenSpec.ofChange octetSizesSpec)

/-- ITS FALSE NEIGHBOUR: 'it returns false'. Refute it at one input. -/
def octetSizesWrong : ChangeSpec := { name := "octetSizes", fn := fun _ => fun
  | [d1, d2, d3] => { results := [.lit (.bool false)], args := [d1, d2, d3] }
  | _ => none }
def OctetSizesWrongFalsely : Prop := octetSizesRow.holds Try.pinned (OpenSpec.ofChange octetSizesWrong)

/-- 'vintnerlaw01.OctetTogether': WHATEVER THE INPUT: true; the input reads as it did. -/
def octetTogetherSpec : ChangeSpec := { name := "octetTogether", fn := fun _ => fun
  | [d1, d2] => { results := [.lit (.bool true)], args := [d1, d2] }
  | _ => none }
def octetTogetherRow : OpenClaim := { program := "ytmomhglcjphieaa", sum := "57dfbb39a19c9fcdf50a598acb0fbfcce59891fd99b48d176cd2d20d4aceef91", func := "vintner/vintnerlaw01.OctetTogether", spec := "octetTogether", unfollowed := true, recurses := true, apart := false }
def OctetTogetherSaid : Prop := octetTogetherRow.holds Try.pinned (OpenSpec.ofChange octetTogetherSpec)

/-- ITS FALSE NEIGHBOUR: 'it returns false'. Refute it at one input. -/
def octetTogetherWrong : ChangeSpec := { name := "octetTogether", fn := fun _ => fun
  | [d1, d2] => { results := [.lit (.bool false)], args := [d1, d2] }
  | _ => none }
def OctetTogetherWrongFalsely : Prop := octetTogetherRow.holds Try.pinned (OpenSpec.ofChange octetTogetherWrong)

/-- 'vintnerlaw01.OctetTakes': WHATEVER THE INPUT: true; the input reads as it did. -/
def octetTakesSpec : ChangeSpec := { name := "octetTakes", fn := fun _ => fun
  | [d1, d2] => { results := [.lit (.bool true)], args := [d1, d2] }
  | _ => none }
def octetTakesRow : OpenClaim := { program := "ytmomhglcjphieaa", sum := "57dfbb39a19c9fcdf50a598acb0fbfcce59891fd99b48d176cd2d20d4aceef91", func := "vintner/vintnerlaw01.OctetTakes", spec := "octetTakes", unfollowed := true, recurses := true, apart := false }
def OctetTakesSaid : Prop := octetTakesRow.holds Try.pinned (OpenSpec.ofChange octetTakesSpec)

/-- ITS FALSE NEIGHBOUR: 'it returns false'. Refute it at one input. -/
def octetTakesWrong : ChangeSpec := { name := "octetTakes", fn := fun _ => fun
  | [d1, d2] => { results := [.lit (.bool false)], args := [d1, d2] }
  | _ => none }
def OctetTakesWrongFalsely : Prop := octetTakesRow.holds Try.pinned (OpenSpec.ofChange octetTakesWrong)

/-- 'vintnerlaw01.OctetCut': WHATEVER THE INPUT: true; the input reads as it did. -/
def octetCutSpec : ChangeSpec := { name := "octetCut", fn := fun _ => fun
  | [d1, d2, d3] => { results := [.lit (.bool true)], args := [d1, d2, d3] }
  | _ => none }
def octetCutRow : OpenClaim := { program := "ytmomhglcjphieaa", sum := "57dfbb39a19c9fcdf50a598acb0fbfcce59891fd99b48d176cd2d20d4aceef91", func := "vintner/vintnerlaw01.OctetCut", spec := "octetCut", unfollowed := true, recurses := true, apart := false }
def OctetCutSaid : Prop := octetCutRow.holds Try.pinned (OpenSpec.ofChange octetCutSpec)

/-- ITS FALSE NEIGHBOUR: 'it returns false'. Refute it at one input. -/
def octetCutWrong : ChangeSpec := { name := "octetCut", fn := fun _ => fun
  | [d1, d2, d3] => { results := [.lit (.bool false)], args := [d1, d2, d3] }
  | _ => none }
def OctetCutWrongFalsely : Prop := octetCutRow.holds Try.pinned (OpenSpec.ofChange octetCutWrong)

/-- 'vintnerlaw01.OctetReads': WHATEVER THE INPUT: true; the input reads as it did. -/
def octetReadsSpec : ChangeSpec := { name := "octetReads", fn := fun _ => fun
  | [d1, d2] => { results := [.lit (.bool true)], args := [d1, d2] }
  | _ => none }
def octetReadsRow : OpenClaim := { program := "ytmomhglcjphieaa", sum := "57dfbb39a19c9fcdf50a598acb0fbfcce59891fd99b48d176cd2d20d4aceef91", func := "vintner/vintnerlaw01.OctetReads", spec := "octetReads", unfollowed := true, recurses := true, apart := false }
def OctetReadsSaid : Prop := octetReadsRow.holds Try.pinned (OpenSpec.ofChange octetReadsSpec)

/-- ITS FALSE NEIGHBOUR: 'it returns false'. Refute it at one input. -/
def octetReadsWrong : ChangeSpec := { name := "octetReads", fn := fun _ => fun
  | [d1, d2] => { results := [.lit (.bool false)], args := [d1, d2] }
  | _ => none }
def OctetReadsWrongFalsely : Prop := octetReadsRow.holds Try.pinned (OpenSpec.ofChange octetReadsWrong)

/-- 'vintnerlaw01.OctetBack': WHATEVER THE INPUT: true; the input reads as it did. -/
def octetBackSpec : ChangeSpec := { name := "octetBack", fn := fun _ => fun
  | [d1, d2] => { results := [.lit (.bool true)], args := [d1, d2] }
  | _ => none }
def octetBackRow : OpenClaim := { program := "ytmomhglcjphieaa", sum := "57dfbb39a19c9fcdf50a598acb0fbfcce59891fd99b48d176cd2d20d4aceef91", func := "vintner/vintnerlaw01.OctetBack", spec := "octetBack", unfollowed := true, recurses := true, apart := false }
def OctetBackSaid : Prop := octetBackRow.holds Try.pinned (OpenSpec.ofChange octetBackSpec)

/-- ITS FALSE NEIGHBOUR: 'it returns false'. Refute it at one input. -/
def octetBackWrong : ChangeSpec := { name := "octetBack", fn := fun _ => fun
  | [d1, d2] => { results := [.lit (.bool false)], args := [d1, d2] }
  | _ => none }
def OctetBackWrongFalsely : Prop := octetBackRow.holds Try.pinned (OpenSpec.ofChange octetBackWrong)

/-- 'vintnerlaw01.OctetFails': WHATEVER THE INPUT: true; the input reads as it did. -/
def octetFailsSpec : ChangeSpec := { name := "octetFails", fn := fun _ => fun
  | [d1, d2, d3] => { results := [.lit (.bool true)], args := [d1, d2, d3] }
  | _ => none }
def octetFailsRow : OpenClaim := { program := "ytmomhglcjphieaa", sum := "57dfbb39a19c9fcdf50a598acb0fbfcce59891fd99b48d176cd2d20d4aceef91", func := "vintner/vintnerlaw01.OctetFails", spec := "octetFails", unfollowed := true, recurses := true, apart := false }
def OctetFailsSaid : Prop := octetFailsRow.holds Try.pinned (OpenSpec.ofChange octetFailsSpec)

/-- ITS FALSE NEIGHBOUR: 'it returns false'. Refute it at one input. -/
def octetFailsWrong : ChangeSpec := { name := "octetFails", fn := fun _ => fun
  | [d1, d2, d3] => { results := [.lit (.bool false)], args := [d1, d2, d3] }
  | _ => none }
def OctetFailsWrongFalsely : Prop := octetFailsRow.holds Try.pinned (OpenSpec.ofChange octetFailsWrong)

/- THE SECOND FORM. 'bulk': how many values and letters a reading holds, each counted each time it is reached (what is shared counts as often as it is met; a slice's spare places count too). A statement '..UptoSaid' is the law's where the arguments, and the package variables that the reading takes, are together of bulk at most 1048576: NARROWER than '..Said'. Prove '..Said' where nothing that the law and all that it calls make is longer than what came in: it says more and counts as full. Else prove '..UptoSaid'. A law counts once. -/
mutual
def uptoBulk {H : Type} : DataW H → Nat
  | .lit (.string bytes) => bytes.length + 1
  | .lit _ => 1
  | .nil => 1
  | .ptr d => uptoBulk d + 1
  | .slice elems spare => uptoBulkAll elems + uptoBulkAll spare + 1
  | .agg parts => uptoBulkAll parts + 1
  | .iface _ d => uptoBulk d + 1
  | .map entries => uptoBulkEntries entries + 1
  | .held _ => 1
def uptoBulkAll {H : Type} : List (DataW H) → Nat
  | [] => 0
  | d :: r => uptoBulk d + uptoBulkAll r
def uptoBulkEntries {H : Type} : List (Lit × DataW H) → Nat
  | [] => 0
  | x :: r => uptoBulkEntry x + uptoBulkEntries r
def uptoBulkEntry {H : Type} : Lit × DataW H → Nat
  | (.string bytes, d) => bytes.length + uptoBulk d + 1
  | (_, d) => uptoBulk d + 1
 end
def uptoSmall : (H : Type) → List (DataW H) → Bool := fun _ ds => decide (uptoBulkAll ds ≤ 1048576)
def OpenSpec.upto (s : _root_.Go.ChangeSpec) : _root_.Go.OpenSpec := { _root_.Go.OpenSpec.ofChange s with cond := some uptoSmall }

/-- 'vintnerlaw01.OctetPuts', WHERE WHAT IT READS IS OF BULK AT MOST 1048576: true; the input reads as it did. -/
def octetPutsUptoRow : OpenClaim := { program := "ytmomhglcjphieaa", sum := "57dfbb39a19c9fcdf50a598acb0fbfcce59891fd99b48d176cd2d20d4aceef91", func := "vintner/vintnerlaw01.OctetPuts", spec := "octetPuts", unfollowed := true, recurses := true, apart := false, narrowed := true }
def OctetPutsUptoSaid : Prop := octetPutsUptoRow.holds Try.pinned (OpenSpec.upto octetPutsSpec)

/-- 'vintnerlaw01.OctetSees', WHERE WHAT IT READS IS OF BULK AT MOST 1048576: true; the input reads as it did. -/
def octetSeesUptoRow : OpenClaim := { program := "ytmomhglcjphieaa", sum := "57dfbb39a19c9fcdf50a598acb0fbfcce59891fd99b48d176cd2d20d4aceef91", func := "vintner/vintnerlaw01.OctetSees", spec := "octetSees", unfollowed := true, recurses := true, apart := false, narrowed := true }
def OctetSeesUptoSaid : Prop := octetSeesUptoRow.holds Try.pinned (OpenSpec.upto octetSeesSpec)

/-- 'vintnerlaw01.OctetOrder', WHERE WHAT IT READS IS OF BULK AT MOST 1048576: true; the input reads as it did. -/
def octetOrderUptoRow : OpenClaim := { program := "ytmomhglcjphieaa", sum := "57dfbb39a19c9fcdf50a598acb0fbfcce59891fd99b48d176cd2d20d4aceef91", func := "vintner/vintnerlaw01.OctetOrder", spec := "octetOrder", unfollowed := true, recurses := true, apart := false, narrowed := true }
def OctetOrderUptoSaid : Prop := octetOrderUptoRow.holds Try.pinned (OpenSpec.upto octetOrderSpec)

/-- 'vintnerlaw01.OctetSizes', WHERE WHAT IT READS IS OF BULK AT MOST 1048576: true; the input reads as it did. -/
def octetSizesUptoRow : OpenClaim := { program := "ytmomhglcjphieaa", sum := "57dfbb39a19c9fcdf50a598acb0fbfcce59891fd99b48d176cd2d20d4aceef91", func := "vintner/vintnerlaw01.OctetSizes", spec := "octetSizes", unfollowed := true, recurses := true, apart := false, narrowed := true }
def OctetSizesUptoSaid : Prop := octetSizesUptoRow.holds Try.pinned (OpenSpec.upto octetSizesSpec)

/-- 'vintnerlaw01.OctetTogether', WHERE WHAT IT READS IS OF BULK AT MOST 1048576: true; the input reads as it did. -/
def octetTogetherUptoRow : OpenClaim := { program := "ytmomhglcjphieaa", sum := "57dfbb39a19c9fcdf50a598acb0fbfcce59891fd99b48d176cd2d20d4aceef91", func := "vintner/vintnerlaw01.OctetTogether", spec := "octetTogether", unfollowed := true, recurses := true, apart := false, narrowed := true }
def OctetTogetherUptoSaid : Prop := octetTogetherUptoRow.holds Try.pinned (OpenSpec.upto octetTogetherSpec)

/-- 'vintnerlaw01.OctetTakes', WHERE WHAT IT READS IS OF BULK AT MOST 1048576: true; the input reads as it did. -/
def octetTakesUptoRow : OpenClaim := { program := "ytmomhglcjphieaa", sum := "57dfbb39a19c9fcdf50a598acb0fbfcce59891fd99b48d176cd2d20d4aceef91", func := "vintner/vintnerlaw01.OctetTakes", spec := "octetTakes", unfollowed := true, recurses := true, apart := false, narrowed := true }
def OctetTakesUptoSaid : Prop := octetTakesUptoRow.holds Try.pinned (OpenSpec.upto octetTakesSpec)

/-- 'vintnerlaw01.OctetCut', WHERE WHAT IT READS IS OF BULK AT MOST 1048576: true; the input reads as it did. -/
def octetCutUptoRow : OpenClaim := { program := "ytmomhglcjphieaa", sum := "57dfbb39a19c9fcdf50a598acb0fbfcce59891fd99b48d176cd2d20d4aceef91", func := "vintner/vintnerlaw01.OctetCut", spec := "octetCut", unfollowed := true, recurses := true, apart := false, narrowed := true }
def OctetCutUptoSaid : Prop := octetCutUptoRow.holds Try.pinned (OpenSpec.upto octetCutSpec)

/-- 'vintnerlaw01.OctetReads', WHERE WHAT IT READS IS OF BULK AT MOST 1048576: true; the input reads as it did. -/
def octetReadsUptoRow : OpenClaim := { program := "ytmomhglcjphieaa", sum := "57dfbb39a19c9fcdf50a598acb0fbfcce59891fd99b48d176cd2d20d4aceef91", func := "vintner/vintnerlaw01.OctetReads", spec := "octetReads", unfollowed := true, recurses := true, apart := false, narrowed := true }
def OctetReadsUptoSaid : Prop := octetReadsUptoRow.holds Try.pinned (OpenSpec.upto octetReadsSpec)

/-- 'vintnerlaw01.OctetBack', WHERE WHAT IT READS IS OF BULK AT MOST 1048576: true; the input reads as it did. -/
def octetBackUptoRow : OpenClaim := { program := "ytmomhglcjphieaa", sum := "57dfbb39a19c9fcdf50a598acb0fbfcce59891fd99b48d176cd2d20d4aceef91", func := "vintner/vintnerlaw01.OctetBack", spec := "octetBack", unfollowed := true, recurses := true, apart := false, narrowed := true }
def OctetBackUptoSaid : Prop := octetBackUptoRow.holds Try.pinned (OpenSpec.upto octetBackSpec)

/-- 'vintnerlaw01.OctetFails', WHERE WHAT IT READS IS OF BULK AT MOST 1048576: true; the input reads as it did. -/
def octetFailsUptoRow : OpenClaim := { program := "ytmomhglcjphieaa", sum := "57dfbb39a19c9fcdf50a598acb0fbfcce59891fd99b48d176cd2d20d4aceef91", func := "vintner/vintnerlaw01.OctetFails", spec := "octetFails", unfollowed := true, recurses := true, apart := false, narrowed := true }
def OctetFailsUptoSaid : Prop := octetFailsUptoRow.holds Try.pinned (OpenSpec.upto octetFailsSpec)

end Rows
end Go.Proofs.Ytmomhglcjphieaa
