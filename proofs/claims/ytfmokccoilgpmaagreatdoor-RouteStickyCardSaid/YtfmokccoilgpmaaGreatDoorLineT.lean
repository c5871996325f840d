/- Package startline and its reference: targets, versions, the two parts of a target. -/
import Derived.Test.YtfmokccoilgpmaaGreatDoorPA
import Derived.Test.YtfmokccoilgpmaaGreatDoorField
import Derived.Laws.RangeAny
namespace Go.Proofs.YtfmokccoilgpmaaGreatDoor
open Go.RowKit Go.Own
set_option linter.unusedVariables false
set_option maxHeartbeats 1000000

theorem targetC_no {s : ByteArray} {k : Nat} (hk : k < (bl s).length) (h : targetC (bl s)[k] = false) : targetB s = false := by
  unfold targetB
  have : (bl s).all targetC = false := by rw [List.all_eq_false]; exact ⟨(bl s)[k], List.getElem_mem hk, by simp [h]⟩
  rw [this]; rfl











/-- the minor of the reference -/
def rminor (s : ByteArray) : Int := if seq s http10 then 0 else if seq s http11 then 1 else -1
theorem v10 (s : ByteArray) (h : seq s http10 = false) : (s.toList == [72, 84, 84, 80, 47, 49, 46, 48]) = false := by
  rw [seq, toList_bl http10] at h; exact h
theorem v11 (s : ByteArray) (h : seq s http11 = false) : (s.toList == [72, 84, 84, 80, 47, 49, 46, 49]) = false := by
  rw [seq, toList_bl http11] at h; exact h
end Go.Proofs.YtfmokccoilgpmaaGreatDoor