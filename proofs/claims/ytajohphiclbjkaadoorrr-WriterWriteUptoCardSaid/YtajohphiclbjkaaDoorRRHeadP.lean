/- Plain laws on the head of a message that is written. No program stands here. -/
import Derived.Test.YtajohphiclbjkaaDoorRRFmtP
import Derived.Test.YtajohphiclbjkaaDoorRRLineQ
namespace Go.Own
set_option linter.unusedVariables false

/-- the bytes of a head: nothing where the start line is empty or a field is not valid -/
def headB (line : ByteArray) (l : List Fld) : List UInt8 := if line.toList.isEmpty || !(l.all validF) then [] else bl line ++ (13 :: 10 :: (linesL l ++ [13, 10]))
theorem headB_no {line : ByteArray} {l : List Fld} (h : line.toList.isEmpty = true ∨ l.all validF = false) : headB line l = [] := by
  unfold headB
  rcases h with h | h
  · rw [h]; rfl
  · rw [h, Bool.not_false, Bool.or_true]; rfl
theorem headB_ok {line : ByteArray} {l : List Fld} (h : line.toList.isEmpty = false) (hv : l.all validF = true) : headB line l = bl line ++ (13 :: 10 :: (linesL l ++ [13, 10])) := by
  unfold headB; rw [h, hv]; rfl
theorem head_str {line : ByteArray} {l : List Fld} (h : line.toList.isEmpty = false) (hv : l.all validF = true) : headB line l = bl (line ++ ⟨#[13, 10]⟩ ++ formatB l ++ ⟨#[13, 10]⟩) := by
  rw [headB_ok h hv, format_done hv, bl_append, bl_append, bl_append, bl_bs]
  simp [bl]
theorem format_isEmpty {l : List Fld} (hv : l.all validF = true) : (formatB l).toList.isEmpty = l.isEmpty := by
  rw [format_done hv, toList_bl, bl_bs]
  cases l with
  | nil => rfl
  | cons f l =>
    have : linesL (f :: l) = lineF f ++ linesL l := rfl
    rw [this]
    have h2 : (lineF f ++ linesL l).length ≠ 0 := by rw [List.length_append, lineF_length]; omega
    cases h3 : lineF f ++ linesL l with
    | nil => rw [h3] at h2; exact absurd rfl h2
    | cons a b => rfl
theorem format_size (l : List Fld) : (formatB l).size ≤ 2 * ((l.map fun f => f.name.size + f.val.size + 2).sum) := by
  unfold formatB
  split
  · rw [bs_size]; exact linesL_length l
  · simp
theorem all_not_nil {l : List Fld} (h : l.all validF = false) : 0 < l.length := by
  cases l with
  | nil => cases h
  | cons f l => simp
theorem headB_length (line : ByteArray) (l : List Fld) : (headB line l).length ≤ line.size + 2 * ((l.map fun f => f.name.size + f.val.size + 2).sum) + 4 := by
  have := linesL_length l
  unfold headB
  split
  · simp
  · simp only [List.length_append, List.length_cons, List.length_nil, bl_length]; omega
theorem headB_ne {line : ByteArray} {l : List Fld} (h : line.toList.isEmpty = false) (hv : l.all validF = true) : 0 < (headB line l).length := by
  rw [headB_ok h hv]; simp only [List.length_append, List.length_cons]; omega
end Go.Own
