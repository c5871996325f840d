/- number.ParseDecimal and its reference. -/
import Derived.Test.YthohdgjjlkeclaaDoorNumQ
import Derived.Test.YthohdgjjlkeclaaDoorAscii
namespace Go.Proofs.YthohdgjjlkeclaaDoor
open Go.RowKit Go.Own
set_option linter.unusedVariables false
set_option maxHeartbeats 1000000











end Go.Proofs.YthohdgjjlkeclaaDoor