/- Package startline: versions and reasons; reading of numbers. -/
import Derived.Test.YtfmokccoilgpmaaGreatDoorLineT
import Derived.Test.YtfmokccoilgpmaaGreatDoorNumParse
namespace Go.Proofs.YtfmokccoilgpmaaGreatDoor
open Go.RowKit Go.Own
set_option linter.unusedVariables false
set_option maxHeartbeats 1000000





end Go.Proofs.YtfmokccoilgpmaaGreatDoor