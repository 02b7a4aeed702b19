/- Values. -/
import Derived.Test.YtpfjakcfjpgbmaaGreatDoorLib
import Derived.Test.YtpfjakcfjpgbmaaGreatDoorProg
namespace Go.Proofs.YtpfjakcfjpgbmaaGreatDoor
set_option linter.unusedVariables false
set_option linter.unusedSimpArgs false
open Go.RowKit

/-- a value of the program's kind 'api.Value' -/
structure Val where
  kind : Int
  n : Int
  s : ByteArray
  deriving DecidableEq
def Val.enc (v : Val) : Value := .agg #[.int .i64 v.kind, .int .i64 v.n, .string v.s]
def knownB (k : Int) : Bool := decide (0 ≤ k) && decide (k ≤ 2)
def rightB (v : Val) : Bool := knownB v.kind && (decide (v.kind ≠ 2) || decide (v.s.size ≤ 40))

end Go.Proofs.YtpfjakcfjpgbmaaGreatDoor
