/- Trim and Value of package ascii and of its reference. -/
import Derived.Test.YtkendcaldeabeaaDoorAscii
namespace Go.Proofs.YtkendcaldeabeaaDoor
open Go.RowKit Go.Own
set_option linter.unusedVariables false









end Go.Proofs.YtkendcaldeabeaaDoor
