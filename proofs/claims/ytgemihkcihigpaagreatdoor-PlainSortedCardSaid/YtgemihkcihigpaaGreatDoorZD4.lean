/- slices.Equal at columns and at ints. -/
import Derived.Laws.StructEq
import Derived.Test.YtgemihkcihigpaaGreatDoorZD3
set_option linter.unusedVariables false
set_option linter.unusedSimpArgs false
namespace Go.Proofs.YtgemihkcihigpaaGreatDoor
section
open Go.RowKit
def eqC (x y : ByteArray × Int) : Bool := (x.1.toList == y.1.toList) && (x.2 == y.2)
def ecolAt (L : List (ByteArray × Int)) (t : Nat) : ByteArray × Int := (L[t]?).getD (noStr, 0)
def eqCols (x y : List (ByteArray × Int)) : Bool := decide (x.length = y.length) && allN (fun t => eqC (ecolAt x t) (ecolAt y t)) x.length
def eqI (x y : Int) : Bool := x == y
def eintAt (L : List Int) (t : Nat) : Int := (L[t]?).getD 0
def eqInts (x y : List Int) : Bool := decide (x.length = y.length) && allN (fun t => eqI (eintAt x t) (eintAt y t)) x.length
end
end Go.Proofs.YtgemihkcihigpaaGreatDoor
