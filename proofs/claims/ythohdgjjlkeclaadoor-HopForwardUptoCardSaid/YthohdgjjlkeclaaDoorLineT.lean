/- Package startline and its reference: targets, versions, the two parts of a target. -/
import Derived.Test.YthohdgjjlkeclaaDoorLineP
import Derived.Test.YthohdgjjlkeclaaDoorField
import Derived.Laws.RangeAny
namespace Go.Proofs.YthohdgjjlkeclaaDoor
open Go.RowKit Go.Own
set_option linter.unusedVariables false
set_option maxHeartbeats 1000000

theorem targetC_no {s : ByteArray} {k : Nat} (hk : k < (bl s).length) (h : targetC (bl s)[k] = false) : targetB s = false := by
  unfold targetB
  have : (bl s).all targetC = false := by rw [List.all_eq_false]; exact ⟨(bl s)[k], List.getElem_mem hk, by simp [h]⟩
  rw [this]; rfl











end Go.Proofs.YthohdgjjlkeclaaDoor