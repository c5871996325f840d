/- Status lines: ParseStatus of the package and of the reference. -/
import Derived.Test.YtglljdhhgmgbgaaDoorLineR
import Derived.Test.YtglljdhhgmgbgaaDoorPA
namespace Go.Proofs.YtglljdhhgmgbgaaDoor
open Go.RowKit Go.Own
set_option linter.unusedVariables false
set_option maxHeartbeats 2000000

/-- a reply of a line -/
def repV (q : Option (Int × ByteArray × Int)) : Value := match q with
  | some (n, r, m) => .agg #[.int .i64 n, .string r, .int .i64 m, .slice none 0 0, .slice none 0 0]
  | none => .agg #[.int .i64 0, .string .empty, .int .i64 0, .slice none 0 0, .slice none 0 0]
def stErr (q : Option (Int × ByteArray × Int)) : Int := if q.isSome then 0 else 2





















end Go.Proofs.YtglljdhhgmgbgaaDoor