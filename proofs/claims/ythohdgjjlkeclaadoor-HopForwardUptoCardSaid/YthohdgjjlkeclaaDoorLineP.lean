/- Plain laws on start lines: targets, versions, the bytes of a rune. No program stands here. -/
import Derived.Test.YthohdgjjlkeclaaDoorPairP
import Derived.Test.YthohdgjjlkeclaaDoorNumQ
import Derived.Laws.RangeAny
namespace Go.Own
set_option linter.unusedVariables false

def targetC (c : UInt8) : Bool := decide (33 ≤ c.toNat) && decide (c.toNat ≤ 126) && !(c.toNat == 35)
def targetB (s : ByteArray) : Bool := (bl s).all targetC && ((bl s).head? == some 47)

/-- a byte of 128 or more begins a rune of 128 or more -/
theorem decode_big (s : ByteArray) (k : Nat) (h : k < s.size) (hb : 128 ≤ (s[k]'h).toNat) : 128 ≤ (Utf8.decode s k).1 := by
  have e : s.get! (k + 0) = s[k]'h := by
    show s.get! k = _
    simp [ByteArray.get!, getElem!_pos, h]
    rfl
  unfold Utf8.decode
  simp only [e]
  rw [if_neg (by omega)]
  split
  · split
    · simp only; omega
    · simp [Utf8.runeError]
  · split
    · split
      · rename_i hc
        simp only [Bool.and_eq_true, decide_eq_true_eq] at hc
        simp only; omega
      · simp [Utf8.runeError]
    · split
      · split
        · rename_i hc
          simp only [Bool.and_eq_true, decide_eq_true_eq] at hc
          simp only; omega
        · simp [Utf8.runeError]
      · simp [Utf8.runeError]

/-- the version of a text: its minor number, and the error -/
def isVersion (l : List UInt8) : Bool := l.length == 8 && (l.take 5 == [72, 84, 84, 80, 47]) && digitB (l.getD 5 0) && (l.getD 6 0 == 46) && digitB (l.getD 7 0)
def http10 : ByteArray := ⟨#[72, 84, 84, 80, 47, 49, 46, 48]⟩
def http11 : ByteArray := ⟨#[72, 84, 84, 80, 47, 49, 46, 49]⟩
def minorB (s : ByteArray) : Int × Int :=
  if seq s http10 then (0, 0) else if seq s http11 then (1, 0) else if isVersion (bl s) then (0, 6) else (0, 2)

theorem minorB_10 {s : ByteArray} (h : seq s http10 = true) : minorB s = (0, 0) := by unfold minorB; rw [if_pos h]
theorem minorB_11 {s : ByteArray} (h0 : seq s http10 = false) (h : seq s http11 = true) : minorB s = (1, 0) := by unfold minorB; rw [if_neg (by simp [h0]), if_pos h]
theorem minorB_un {s : ByteArray} (h0 : seq s http10 = false) (h1 : seq s http11 = false) (h : isVersion (bl s) = true) : minorB s = (0, 6) := by unfold minorB; rw [if_neg (by simp [h0]), if_neg (by simp [h1]), if_pos h]
theorem minorB_no {s : ByteArray} (h0 : seq s http10 = false) (h1 : seq s http11 = false) (h : isVersion (bl s) = false) : minorB s = (0, 2) := by unfold minorB; rw [if_neg (by simp [h0]), if_neg (by simp [h1]), if_neg (by simp [h])]
theorem minorB_ok {s : ByteArray} (h : (minorB s).2 = 0) : (s = http10 ∧ (minorB s).1 = 0) ∨ (s = http11 ∧ (minorB s).1 = 1) := by
  cases h0 : seq s http10 with
  | true => left; exact ⟨(seq_iff _ _).1 h0, by rw [minorB_10 h0]⟩
  | false =>
    cases h1 : seq s http11 with
    | true => right; exact ⟨(seq_iff _ _).1 h1, by rw [minorB_11 h0 h1]⟩
    | false =>
      exfalso
      cases hv : isVersion (bl s) with
      | true => rw [minorB_un h0 h1 hv] at h; simp at h
      | false => rw [minorB_no h0 h1 hv] at h; simp at h
theorem minorB_bd (s : ByteArray) : ((minorB s).1 = 0 ∨ (minorB s).1 = 1) ∧ ((minorB s).2 = 0 ∨ (minorB s).2 = 2 ∨ (minorB s).2 = 6) := by
  unfold minorB
  split
  · simp
  · split
    · simp
    · split <;> simp

/-! ### request lines -/
def parseReq (s : ByteArray) : Option (ByteArray × ByteArray × Int) × Int :=
  match splitS 32 s with
  | [m, t, v] => if token (bl m) && targetB t then (if (minorB v).2 = 0 then (some (m, t, (minorB v).1), 0) else (none, (minorB v).2)) else (none, 2)
  | _ => (none, 2)
theorem parseReq_len {s : ByteArray} {l : List ByteArray} (h : splitS 32 s = l) (hl : l.length ≠ 3) : parseReq s = (none, 2) := by
  unfold parseReq
  rw [h]
  match l, hl with
  | [], _ => rfl
  | [_], _ => rfl
  | [_, _], _ => rfl
  | [_, _, _], hl => exact absurd rfl hl
  | _ :: _ :: _ :: _ :: _, _ => rfl
theorem parseReq_bad {s m t v : ByteArray} (h : splitS 32 s = [m, t, v]) (hb : (token (bl m) && targetB t) = false) : parseReq s = (none, 2) := by
  unfold parseReq; rw [h]; simp only; rw [if_neg (by simp [hb])]
theorem parseReq_ver {s m t v : ByteArray} (h : splitS 32 s = [m, t, v]) (hb : (token (bl m) && targetB t) = true) (hv : (minorB v).2 ≠ 0) : parseReq s = (none, (minorB v).2) := by
  unfold parseReq; rw [h]; simp only; rw [if_pos hb, if_neg hv]
theorem parseReq_ok {s m t v : ByteArray} (h : splitS 32 s = [m, t, v]) (hb : (token (bl m) && targetB t) = true) (hv : (minorB v).2 = 0) : parseReq s = (some (m, t, (minorB v).1), 0) := by
  unfold parseReq; rw [h]; simp only; rw [if_pos hb, if_pos hv]

/-! ### status lines -/
def visible (l : List UInt8) : Bool := l.all visB
/-- the reason: what stands behind the 13th byte -/
def reasonB (s : ByteArray) : ByteArray := if 12 < s.size then s.extract 13 s.size else .empty
def stLine (s : ByteArray) : Bool := decide (12 ≤ s.size) && ((minorB (s.extract 0 8)).2 == 0) && ((bl s).getD 8 0 == 32) && (decide (s.size ≤ 12) || ((bl s).getD 12 0 == 32))
def parseSt (s : ByteArray) : Option (Int × ByteArray × Int) :=
  if stLine s && ((parseN 10 599 (bl (s.extract 9 12))).2 == 0) && decide (100 ≤ (parseN 10 599 (bl (s.extract 9 12))).1) && visible (bl (reasonB s)) then
    some ((parseN 10 599 (bl (s.extract 9 12))).1, reasonB s, (minorB (s.extract 0 8)).1)
  else none
theorem cut_whole {c : UInt8} {l : List UInt8} (h : hasB l c = true) : l = before c l ++ c :: behind c l := by
  induction l with
  | nil => cases h
  | cons x r ih =>
    by_cases hx : x = c
    · simp [before, behind, hx]
    · have h2 : hasB r c = true := by simpa [hasB, hx] using h
      have := ih h2
      unfold before behind at this ⊢
      simp [hx]
      simpa using this
theorem http_no : hasB (bl http10) 32 = false ∧ hasB (bl http11) 32 = false ∧ http10.size = 8 ∧ http11.size = 8 := by decide +kernel
/-- where the text ahead of the first blank is a version -/
theorem st_of {s : ByteArray} (h : hasB (bl s) 32 = true) (hm : (minorB (bs (before 32 (bl s)))).2 = 0) :
    bs (before 32 (bl s)) = s.extract 0 8 ∧ bs (behind 32 (bl s)) = s.extract 9 s.size ∧ (bl s).getD 8 0 = 32 ∧ 8 < s.size := by
  have hl := cut_whole h
  have h8 : (before 32 (bl s)).length = 8 := by
    rcases minorB_ok hm with ⟨e, -⟩ | ⟨e, -⟩
    · rw [← bs_size, e]; exact http_no.2.2.1
    · rw [← bs_size, e]; exact http_no.2.2.2
  have hlen : (bl s).length = 8 + 1 + (behind 32 (bl s)).length := by
    conv => lhs; rw [hl]
    rw [List.length_append, List.length_cons, h8]; omega
  have e1 : (bl s).take 8 = before 32 (bl s) := by
    conv => lhs; rw [hl]
    rw [List.take_left' h8]
  have e2 : (bl s).drop 9 = behind 32 (bl s) := by
    conv => lhs; rw [hl]
    rw [show 9 = 8 + 1 from rfl, ← List.drop_drop, List.drop_left' h8]; rfl
  refine ⟨bl_inj (by rw [bl_bs, bl_extract, List.drop_zero, e1]), bl_inj (by rw [bl_bs, bl_extract, List.take_of_length_le (by rw [bl_length]; exact Nat.le_refl _), e2]), ?_, by rw [← bl_length]; omega⟩
  conv => lhs; rw [hl]
  rw [List.getD_eq_getElem?_getD, List.getElem?_append_right (by omega), h8]; rfl
/-- a status line begins with a version and a blank -/
theorem st_first {s : ByteArray} (h : stLine s = true) : hasB (bl s) 32 = true ∧ (minorB (bs (before 32 (bl s)))).2 = 0 := by
  unfold stLine at h
  simp only [Bool.and_eq_true, decide_eq_true_eq, beq_iff_eq] at h
  obtain ⟨⟨⟨h12, hm⟩, h8⟩, -⟩ := h
  have hk : 8 < (bl s).length := by rw [bl_length]; omega
  have hn : hasB ((bl s).take 8) 32 = false := by
    have e : bl (s.extract 0 8) = (bl s).take 8 := by rw [bl_extract, List.drop_zero]
    rw [← e]
    rcases minorB_ok hm with ⟨e, -⟩ | ⟨e, -⟩
    · rw [e]; exact http_no.1
    · rw [e]; exact http_no.2.1
  have he : (bl s)[8] = 32 := by
    rw [List.getD_eq_getElem?_getD, List.getElem?_eq_getElem hk] at h8
    exact h8
  have hb := before_at 32 (bl s) 8 hk hn he
  refine ⟨hb.1, ?_⟩
  have e : bs (before 32 (bl s)) = s.extract 0 8 := bl_inj (by rw [bl_bs, bl_extract, List.drop_zero, hb.2.1])
  rw [e]; exact hm
theorem stLine_no1 {s : ByteArray} (h : hasB (bl s) 32 = false) : stLine s = false := by
  cases hs : stLine s with
  | false => rfl
  | true => rw [(st_first hs).1] at h; cases h
theorem stLine_no2 {s : ByteArray} (h : (minorB (bs (before 32 (bl s)))).2 ≠ 0) : stLine s = false := by
  cases hs : stLine s with
  | false => rfl
  | true => exact absurd (st_first hs).2 h
theorem parseSt_no {s : ByteArray} (h : stLine s = false) : parseSt s = none := by unfold parseSt; rw [h]; rfl
end Go.Own
