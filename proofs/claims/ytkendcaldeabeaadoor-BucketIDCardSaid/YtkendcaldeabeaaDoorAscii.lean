/- The character classes of HTTP: package ascii and its reference: what each function computes. -/
import Derived.Test.YtkendcaldeabeaaDoorRows
import Derived.Test.YtkendcaldeabeaaDoorPure
import Derived.Test.YtkendcaldeabeaaDoorShelf
namespace Go.Proofs.YtkendcaldeabeaaDoor
open Go.RowKit Go.Own
set_option linter.unusedVariables false






























end Go.Proofs.YtkendcaldeabeaaDoor
