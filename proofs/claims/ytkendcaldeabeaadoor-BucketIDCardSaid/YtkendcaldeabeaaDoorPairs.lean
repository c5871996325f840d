/- cookie.Pairs and its reference. -/
import Derived.Test.YtkendcaldeabeaaDoorValues
import Derived.Test.YtkendcaldeabeaaDoorList
import Derived.Test.YtkendcaldeabeaaDoorN06
import Derived.Test.YtkendcaldeabeaaDoorPairP
import Derived.Test.YtkendcaldeabeaaDoorRefV
import Derived.Test.YtkendcaldeabeaaDoorStep
namespace Go.Proofs.YtkendcaldeabeaaDoor
open Go.RowKit Go.Own
set_option linter.unusedVariables false
set_option maxHeartbeats 2000000



def cookieS : ByteArray := ⟨#[67, 111, 111, 107, 105, 101]⟩
theorem values_cookie (l : List Fld) : valuesS l ⟨#[99, 111, 111, 107, 105, 101]⟩ = valuesS l cookieS := by
  unfold valuesS foldB
  have : lowerB (⟨#[99, 111, 111, 107, 105, 101]⟩ : ByteArray) = lowerB cookieS := by decide +kernel
  rw [this]
theorem values_sum (l : List Fld) (name : ByteArray) : ((valuesS l name).map fun s => s.size + 1).sum ≤ fsize l := by
  induction l with
  | nil => exact Nat.le_refl _
  | cons f l ih =>
    unfold valuesS fsize at ih ⊢
    rw [List.filter_cons, List.map_cons, List.sum_cons]
    cases h : foldB f.name name
    · simp only [Bool.false_eq_true, if_false]; omega
    · simp only [if_true, List.map_cons, List.sum_cons]; omega
theorem values_mem {l : List Fld} {name s : ByteArray} (h : s ∈ valuesS l name) : s.size ≤ fsize l := by
  obtain ⟨f, hf, rfl⟩ := List.mem_map.1 h
  have := fsize_mem (List.mem_filter.1 hf).1
  omega

end Go.Proofs.YtkendcaldeabeaaDoor