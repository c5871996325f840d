/- FormatRequest and FormatStatus of the package and of the reference; a byte of a line changed. -/
import Derived.Test.YtfmokccoilgpmaaGreatDoorLineR
import Derived.Test.YtfmokccoilgpmaaGreatDoorPA
import Derived.Test.YtfmokccoilgpmaaGreatDoorDec
import Derived.Test.YtfmokccoilgpmaaGreatDoorNumR
import Derived.Test.YtfmokccoilgpmaaGreatDoorPB
import Derived.Test.YtfmokccoilgpmaaGreatDoorSource
namespace Go.Proofs.YtfmokccoilgpmaaGreatDoor
open Go.RowKit Go.Own
set_option linter.unusedVariables false
set_option maxHeartbeats 2000000

theorem bl_append (a b : ByteArray) : bl (a ++ b) = bl a ++ bl b := by unfold bl; rw [ByteArray.data_append, Array.toList_append]




        




end Go.Proofs.YtfmokccoilgpmaaGreatDoor