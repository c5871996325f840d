/- slices.Grow, Concat and Clone at []byte. -/
import Derived.Test.YthohdgjjlkeclaaDoorX06
import Derived.Test.YthohdgjjlkeclaaDoorSrcB
namespace Go.Proofs.YthohdgjjlkeclaaDoor
open Go.RowKit Go.Own
set_option linter.unusedVariables false
set_option maxHeartbeats 1000000

theorem lenB (l : List UInt8) : (bytesV l).length = l.length * 1 := by rw [bytesV_length, Nat.mul_one]
theorem bytesV_append (a b : List UInt8) : bytesV (a ++ b) = bytesV a ++ bytesV b := List.map_append ..
theorem OwnY.base {w : World} {B B' : Nat} {v : Value} {l : List UInt8} (h : OwnY B w v l) (hB : B' ≤ B) : OwnY B' w v l := by
  obtain ⟨h1, h2⟩ := h
  refine ⟨h1, ?_⟩
  rcases h2 with h2 | ⟨g, cap, cur, q1, q2, q3⟩
  · exact Or.inl h2
  · exact Or.inr ⟨g, cap, cur, q1, Nat.le_trans hB q2, q3⟩





end Go.Proofs.YthohdgjjlkeclaaDoor
