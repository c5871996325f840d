/- Split at one byte: strings.Split by its contract, and the reference's own. -/
import Derived.Test.YtkendcaldeabeaaDoorTrim
import Derived.Test.YtkendcaldeabeaaDoorTexts
import Derived.Test.YtkendcaldeabeaaDoorEnv
namespace Go.Proofs.YtkendcaldeabeaaDoor
open Go.RowKit Go.Own
set_option linter.unusedVariables false

theorem one_size (c : UInt8) : 1 ≤ (⟨#[c]⟩ : ByteArray).size := Nat.le_refl 1
theorem map_bs_bl (l : List ByteArray) : (l.map bl).map bs = l := by
  rw [List.map_map]
  induction l with
  | nil => rfl
  | cons x l ih => rw [List.map_cons, ih]; show bs (bl x) :: l = _; rw [bs_bl]



end Go.Proofs.YtkendcaldeabeaaDoor