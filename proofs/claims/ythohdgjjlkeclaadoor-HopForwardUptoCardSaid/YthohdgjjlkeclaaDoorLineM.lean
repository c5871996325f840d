/- Package startline: versions and reasons; reading of numbers. -/
import Derived.Test.YthohdgjjlkeclaaDoorLineT
import Derived.Test.YthohdgjjlkeclaaDoorNumParse
namespace Go.Proofs.YthohdgjjlkeclaaDoor
open Go.RowKit Go.Own
set_option linter.unusedVariables false
set_option maxHeartbeats 1000000





end Go.Proofs.YthohdgjjlkeclaaDoor