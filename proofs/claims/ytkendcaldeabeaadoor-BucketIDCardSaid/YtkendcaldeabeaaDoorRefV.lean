/- The reference's Values and Has; Elements of both. -/
import Derived.Test.YtkendcaldeabeaaDoorN06
import Derived.Test.YtkendcaldeabeaaDoorList
import Derived.Deep.RegionHeld3
namespace Go.Proofs.YtkendcaldeabeaaDoor
open Go.RowKit Go.Own
set_option linter.unusedVariables false
set_option maxHeartbeats 1000000



theorem own_base {w : World} {B B' : Nat} {v : Value} {l : List ByteArray} (h : OwnS B w v l) (hB : B' ≤ B) : OwnS B' w v l := by
  obtain ⟨h1, h2⟩ := h
  refine ⟨h1, ?_⟩
  rcases h2 with h2 | ⟨g, cap, cur, q1, q2, q3⟩
  · exact Or.inl h2
  · exact Or.inr ⟨g, cap, cur, q1, Nat.le_trans hB q2, q3⟩



theorem valuesS_sum (l : List Fld) (name : ByteArray) : ((valuesS l name).map fun s => s.size + 1).sum ≤ fsize l := by
  induction l with
  | nil => exact Nat.le_refl _
  | cons f l ih =>
    unfold valuesS fsize at ih ⊢
    rw [List.filter_cons, List.map_cons, List.sum_cons]
    cases h : foldB f.name name
    · simp only [Bool.false_eq_true, if_false]; omega
    · simp only [if_true, List.map_cons, List.sum_cons]; omega
theorem valuesS_mem {l : List Fld} {name s : ByteArray} (h : s ∈ valuesS l name) : s.size ≤ fsize l := by
  obtain ⟨f, hf, rfl⟩ := List.mem_map.1 h
  have := fsize_mem (List.mem_filter.1 hf).1
  omega





end Go.Proofs.YtkendcaldeabeaaDoor
