/- Values, Has of package field and of its reference. -/
import Derived.Test.YtkendcaldeabeaaDoorField
namespace Go.Proofs.YtkendcaldeabeaaDoor
open Go.RowKit Go.Own
set_option linter.unusedVariables false

/-- the values of the fields with a name -/
def valuesS (l : List Fld) (name : ByteArray) : List ByteArray := (l.filter fun f => foldB f.name name).map (·.val)





end Go.Proofs.YtkendcaldeabeaaDoor
