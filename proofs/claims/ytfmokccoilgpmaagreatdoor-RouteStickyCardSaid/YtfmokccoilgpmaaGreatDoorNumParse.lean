/- number.ParseDecimal and its reference. -/
import Derived.Test.YtfmokccoilgpmaaGreatDoorPA
import Derived.Test.YtfmokccoilgpmaaGreatDoorAscii
namespace Go.Proofs.YtfmokccoilgpmaaGreatDoor
open Go.RowKit Go.Own
set_option linter.unusedVariables false
set_option maxHeartbeats 1000000







/-- the reference's digit -/
def rdig (c : UInt8) : Int := if 10 ≤ digV c then -1 else digV c




end Go.Proofs.YtfmokccoilgpmaaGreatDoor