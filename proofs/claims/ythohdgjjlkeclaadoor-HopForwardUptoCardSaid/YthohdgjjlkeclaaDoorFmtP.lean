/- Plain laws on the lines of fields: Format, and that the line of a valid field is parsed to the field. No program stands here. -/
import Derived.Test.YthohdgjjlkeclaaDoorFieldP
namespace Go.Own
set_option linter.unusedVariables false

def lineF (f : Fld) : List UInt8 := bl f.name ++ 58 :: 32 :: (bl f.val ++ [13, 10])
def lineB (f : Fld) : ByteArray := f.name ++ ⟨#[58, 32]⟩ ++ f.val ++ ⟨#[13, 10]⟩
theorem bl_lineB (f : Fld) : bl (lineB f) = lineF f := by
  unfold lineB lineF
  rw [bl_append, bl_append, bl_append]
  simp [bl]
theorem lineF_length (f : Fld) : (lineF f).length = f.name.size + f.val.size + 4 := by
  unfold lineF
  simp only [List.length_append, List.length_cons, bl_length, List.length_nil]
  omega
def linesL (l : List Fld) : List UInt8 := l.flatMap lineF
def formatB (l : List Fld) : ByteArray := if l.all validF then bs (linesL l) else .empty
theorem linesL_take (l : List Fld) (k : Nat) (h : k < l.length) : linesL (l.take (k + 1)) = linesL (l.take k) ++ lineF l[k] := by
  unfold linesL
  rw [List.take_succ_eq_append_getElem h, List.flatMap_append]
  simp
theorem linesL_length (l : List Fld) : (linesL l).length ≤ 2 * ((l.map fun f => f.name.size + f.val.size + 2).sum) := by
  induction l with
  | nil => exact Nat.zero_le _
  | cons f l ih =>
    unfold linesL at ih ⊢
    rw [List.flatMap_cons, List.length_append, lineF_length, List.map_cons, List.sum_cons]
    omega
theorem linesL_take_length (l : List Fld) (k : Nat) : (linesL (l.take k)).length ≤ 2 * ((l.map fun f => f.name.size + f.val.size + 2).sum) := by
  refine Nat.le_trans ?_ (linesL_length l)
  have h := List.take_append_drop k l
  have : linesL l = linesL (l.take k) ++ linesL (l.drop k) := by
    unfold linesL; rw [← List.flatMap_append, h]
  rw [this, List.length_append]
  omega
theorem format_fail {l : List Fld} (k : Nat) (h : k < l.length) (hv : validF l[k] = false) : formatB l = .empty := by
  have e : l.all validF = false := by rw [List.all_eq_false]; exact ⟨l[k], List.getElem_mem h, by simp [hv]⟩
  unfold formatB; rw [e]; rfl
theorem format_done {l : List Fld} (h : l.all validF = true) : formatB l = bs (linesL l) := by unfold formatB; rw [if_pos h]
theorem allF_succ {l : List Fld} (k : Nat) (h : k < l.length) (ht : (l.take k).all validF = true) (hv : validF l[k] = true) : (l.take (k + 1)).all validF = true := by
  rw [List.take_succ_eq_append_getElem h, List.all_append, ht]; simp [hv]
theorem bs_snoc_line (l : List UInt8) (f : Fld) : bs (l ++ lineF f) = bs l ++ f.name ++ ⟨#[58, 32]⟩ ++ f.val ++ ⟨#[13, 10]⟩ := by
  apply bl_inj
  rw [bl_append, bl_append, bl_append, bl_append, bl_bs, bl_bs]
  simp [lineF, bl]

/-! ### the line of a valid field -/
theorem tchar_no_colon : tchar 58 = false := by decide +kernel
theorem token_no_colon {l : List UInt8} (h : token l = true) : hasB l 58 = false := by
  unfold token at h
  rw [Bool.and_eq_true] at h
  have h1 := List.all_eq_true.1 h.1
  unfold hasB
  rw [List.any_eq_false]
  intro x hx e
  have := h1 x hx
  rw [beq_iff_eq] at e
  rw [e, tchar_no_colon] at this
  cases this
theorem before_of {c : UInt8} {l r : List UInt8} (h : hasB l c = false) : hasB (l ++ c :: r) c = true ∧ before c (l ++ c :: r) = l ∧ behind c (l ++ c :: r) = r := by
  have := before_at c (l ++ c :: r) l.length (by simp) (by simpa using h) (by simp)
  refine ⟨this.1, ?_, ?_⟩
  · rw [this.2.1]; simp
  · rw [this.2.2]; simp
theorem parse_line {f : Fld} (h : validF f = true) : parseF (bs (bl f.name ++ 58 :: 32 :: bl f.val)) = some f := by
  have hv := h
  unfold validF at hv
  rw [Bool.and_eq_true] at hv
  obtain ⟨h1, h2⟩ := hv
  obtain ⟨g1, g2, g3⟩ := before_of (r := 32 :: bl f.val) (token_no_colon h1)
  unfold value at h2
  rw [Bool.and_eq_true, beq_iff_eq] at h2
  unfold parseF
  rw [bl_bs, g1, g2, g3]
  have e : trimB (bs (32 :: bl f.val)) = f.val := by
    unfold trimB
    rw [bl_bs, trim_cons _ _ (by decide +kernel), h2.2, bs_bl]
  rw [e, bs_bl]
  simp only [if_true]
  rw [if_pos h]
theorem line_cut (f : Fld) : (lineB f).extract 0 ((lineB f).size - 2) = bs (bl f.name ++ 58 :: 32 :: bl f.val) := by
  apply bl_inj
  rw [bl_extract, bl_bs, bl_lineB, List.drop_zero]
  have e1 : (lineB f).size = f.name.size + f.val.size + 4 := by rw [← bl_length, bl_lineB, lineF_length]
  have e2 : lineF f = (bl f.name ++ 58 :: 32 :: bl f.val) ++ [13, 10] := by simp [lineF]
  rw [e2, List.take_append_of_le_length (by rw [e1]; simp [bl_length]; omega), List.take_of_length_le (by rw [e1]; simp [bl_length]; omega)]
theorem lineB_size (f : Fld) : (lineB f).size = f.name.size + f.val.size + 4 := by rw [← bl_length, bl_lineB, lineF_length]
theorem format_one {f : Fld} (h : validF f = true) : formatB [f] = lineB f := by
  rw [format_done (by simp [h])]
  apply bl_inj
  rw [bl_bs, bl_lineB]
  simp [linesL]
end Go.Own
