/- Values, Has of package field and of its reference. -/
import Derived.Test.YtkendcaldeabeaaDoorNamed
namespace Go.Proofs.YtkendcaldeabeaaDoor
open Go.RowKit Go.Own
set_option linter.unusedVariables false
set_option maxHeartbeats 1000000

theorem foldB_seq (a b : ByteArray) : seq (lowerB a) (lowerB b) = foldB a b := rfl
theorem valuesS_take (l : List Fld) (name : ByteArray) (k : Nat) (hk : k < l.length) : valuesS (l.take (k + 1)) name = valuesS (l.take k) name ++ (if foldB l[k].name name then [l[k].val] else []) := by
  rw [valuesS, valuesS, List.take_succ_eq_append_getElem hk, List.filter_append, List.map_append]
  congr 1
  cases h : foldB l[k].name name <;> simp [h]
theorem valuesS_take_length (l : List Fld) (name : ByteArray) (k : Nat) : (valuesS (l.take k) name).length ≤ k := by
  rw [valuesS, List.length_map]
  exact Nat.le_trans (List.length_filter_le _ _) (by rw [List.length_take]; exact Nat.min_le_left _ _)
theorem valuesS_length (l : List Fld) (name : ByteArray) : (valuesS l name).length ≤ l.length := by
  rw [valuesS, List.length_map]; exact List.length_filter_le _ _

end Go.Proofs.YtkendcaldeabeaaDoor