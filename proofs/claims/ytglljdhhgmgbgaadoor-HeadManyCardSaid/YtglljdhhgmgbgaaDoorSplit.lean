/- Split at one byte: strings.Split by its contract, and the reference's own. -/
import Derived.Test.YtglljdhhgmgbgaaDoorTrim
import Derived.Test.YtglljdhhgmgbgaaDoorPA
import Derived.Test.YtglljdhhgmgbgaaDoorEnv
namespace Go.Proofs.YtglljdhhgmgbgaaDoor
open Go.RowKit Go.Own
set_option linter.unusedVariables false

theorem one_size (c : UInt8) : 1 ≤ (⟨#[c]⟩ : ByteArray).size := Nat.le_refl 1
theorem map_bs_bl (l : List ByteArray) : (l.map bl).map bs = l := by
  rw [List.map_map]
  induction l with
  | nil => rfl
  | cons x l ih => rw [List.map_cons, ih]; show bs (bl x) :: l = _; rw [bs_bl]

/-- strings.Split at one byte -/
theorem strsplit_calls (c : UInt8) (s : ByteArray) (w : World) (hE : Env w) (hs : s.size < 4294967281) :
    Calls Tryd.prog 17 #[.string s, .string ⟨#[c]⟩] w fun e w' => (∃ v, e = .returned v ∧ OwnS w.heap.size w' v (splitS c s)) ∧ Below w.heap.size w w' := by
  obtain ⟨m, hm⟩ := hE.max
  refine (Tryd.strings_Split s ⟨#[c]⟩ m w hs hm (one_size c)).mono ?_
  rintro e w' ⟨rfl, rfl⟩
  refine ⟨⟨_, rfl, ?_⟩, (Below.refl _ _).alloc (Nat.le_refl _) _⟩
  have hl : Lib.countB s ⟨#[c]⟩ + 1 = (splitS c s).length := by
    rw [← splitB_one]
    exact (Lib.splitB_all _ (one_size c) 0 _ s rfl).symm
  rw [splitB_one, hl]
  have h := World.ownsRow_lit w ((splitS c s).map Value.string).toArray (base := w.heap.size) (e := 9) (size := 1) (splitS c s).length (Nat.le_refl _) ?_ (by simp)
  · simpa [OwnS, strsV] using h
  · have := Lib.countB_le ⟨#[c]⟩ (one_size c) s.size s (Nat.le_refl _)
    rw [← hl]; simp [maxLen]; omega

end Go.Proofs.YtglljdhhgmgbgaaDoor