/- Plain laws on start lines that were formatted, and are parsed again. No program stands here. -/
import Derived.Test.YtajohphiclbjkaaDoorRRLineP
namespace Go.Own
set_option linter.unusedVariables false

/-- "HTTP/1." -/
def httpB : ByteArray := ⟨#[72, 84, 84, 80, 47, 49, 46]⟩
def okReq (m t : ByteArray) (n : Int) : Bool := token (bl m) && targetB t && decide (0 ≤ n) && decide (n ≤ 1)
def fmtReq (m t : ByteArray) (n : Int) : ByteArray := if okReq m t n then bs (bl m ++ 32 :: (bl t ++ 32 :: (bl httpB ++ digs 10 n.toNat))) else .empty
def okSt (st : Int) (r : ByteArray) (n : Int) : Bool := decide (100 ≤ st) && decide (st ≤ 599) && decide (0 ≤ n) && decide (n ≤ 1) && visible (bl r)
def fmtSt (st : Int) (r : ByteArray) (n : Int) : ByteArray := if okSt st r n then bs (bl httpB ++ (digs 10 n.toNat ++ 32 :: (digs 10 st.toNat ++ 32 :: bl r))) else .empty

theorem digs3 {n : Nat} (h1 : 100 ≤ n) (h2 : n < 1000) : digs 10 n = [hexD (n / 100), hexD (n / 10 % 10), hexD (n % 10)] := by
  rw [digs_step (n := n) (by omega) (by omega), digs_step (n := n / 10) (by omega) (by omega), digs_small (by omega)]
  simp [Nat.div_div_eq_div_mul]
theorem digV_hexD : ∀ d, d < 10 → digV (hexD d) = (d : Int) := by decide +kernel
theorem digs0 : digs 10 0 = [48] := by rw [digs_small (by omega)]; decide
theorem digs1 : digs 10 1 = [49] := by rw [digs_small (by omega)]; decide
theorem parseN_digs {n : Nat} (h1 : 100 ≤ n) (h2 : n ≤ 599) : parseN 10 599 (digs 10 n) = ((n : Int), 0) := by
  rw [digs3 h1 (by omega)]
  have a := digV_hexD (n / 100) (by omega)
  have b := digV_hexD (n / 10 % 10) (by omega)
  have c := digV_hexD (n % 10) (by omega)
  refine parseN_some ?_ (by simp) ?_
  · simp only [badN, List.any_cons, List.any_nil, a, b, c]
    simp only [Bool.or_false, Bool.or_eq_false_iff, decide_eq_false_iff_not]
    omega
  · simp only [accN, a, b, c]
    rw [if_neg (by omega), if_neg (by omega), if_neg (by omega)]
    congr 1
    omega
theorem token_no32 {l : List UInt8} (h : token l = true) : hasB l 32 = false := by
  have ht : tchar 32 = false := by decide +kernel
  simp only [token, Bool.and_eq_true, List.all_eq_true] at h
  cases hh : hasB l 32 with
  | false => rfl
  | true =>
    obtain ⟨x, hx, he⟩ := List.any_eq_true.1 hh
    have := h.1 x hx
    rw [beq_iff_eq.1 he, ht] at this
    cases this
theorem target_no32 {s : ByteArray} (h : targetB s = true) : hasB (bl s) 32 = false := by
  have ht : targetC 32 = false := by decide +kernel
  simp only [targetB, Bool.and_eq_true, List.all_eq_true] at h
  cases hh : hasB (bl s) 32 with
  | false => rfl
  | true =>
    obtain ⟨x, hx, he⟩ := List.any_eq_true.1 hh
    have := h.1 x hx
    rw [beq_iff_eq.1 he, ht] at this
    cases this
theorem okReq_of {m t : ByteArray} {n : Int} (h : okReq m t n = true) : token (bl m) = true ∧ targetB t = true ∧ (n = 0 ∨ n = 1) := by
  simp only [okReq, Bool.and_eq_true, decide_eq_true_eq] at h
  exact ⟨h.1.1.1, h.1.1.2, by omega⟩
theorem http_digs {n : Int} (h : n = 0 ∨ n = 1) : hasB (bl httpB ++ digs 10 n.toNat) 32 = false ∧ minorB (bs (bl httpB ++ digs 10 n.toNat)) = (n, 0) := by
  rcases h with rfl | rfl
  · rw [show (0 : Int).toNat = 0 from rfl, digs0]
    exact ⟨by decide +kernel, minorB_10 (by decide +kernel)⟩
  · rw [show (1 : Int).toNat = 1 from rfl, digs1]
    exact ⟨by decide +kernel, minorB_11 (by decide +kernel) (by decide +kernel)⟩
/-- a request's line is parsed to the same method, target and version -/
theorem parse_fmtReq {m t : ByteArray} {n : Int} (h : okReq m t n = true) : parseReq (fmtReq m t n) = (some (m, t, n), 0) := by
  obtain ⟨h1, h2, h3⟩ := okReq_of h
  obtain ⟨h4, h5⟩ := http_digs h3
  have hs : splitS 32 (fmtReq m t n) = [m, t, bs (bl httpB ++ digs 10 n.toNat)] := by
    unfold fmtReq
    rw [if_pos h, splitS, bl_bs, splitBy_append, splitBy_append, splitBy_end _ _ (token_no32 h1), splitBy_end _ _ (target_no32 h2), splitBy_end _ _ h4]
    simp [bs_bl]
  rw [parseReq_ok hs (by rw [h1, h2]; rfl) (by rw [h5]), h5]
theorem fmtReq_size (m t : ByteArray) (n : Int) : (fmtReq m t n).size ≤ m.size + t.size + 10 := by
  unfold fmtReq
  split
  · rename_i h
    obtain ⟨h1, h2, h3⟩ := okReq_of h
    have : (digs 10 n.toNat).length = 1 := by
      rcases h3 with rfl | rfl
      · rw [show (0 : Int).toNat = 0 from rfl, digs0]; rfl
      · rw [show (1 : Int).toNat = 1 from rfl, digs1]; rfl
    rw [bs_size]
    simp only [List.length_append, List.length_cons, bl_length, this]
    have : httpB.size = 7 := rfl
    omega
  · simp
theorem okSt_of {st n : Int} {r : ByteArray} (h : okSt st r n = true) : (100 ≤ st ∧ st ≤ 599) ∧ (n = 0 ∨ n = 1) ∧ visible (bl r) = true := by
  simp only [okSt, Bool.and_eq_true, decide_eq_true_eq] at h
  exact ⟨⟨h.1.1.1.1, h.1.1.1.2⟩, by omega, h.2⟩
theorem fmtSt_bl {st n : Int} {r : ByteArray} (h : okSt st r n = true) : ∃ k : Nat, st = k ∧ 100 ≤ k ∧ k ≤ 599 ∧ ∃ v : UInt8, (v = 48 ∧ n = 0 ∨ v = 49 ∧ n = 1) ∧
    bl (fmtSt st r n) = 72 :: 84 :: 84 :: 80 :: 47 :: 49 :: 46 :: v :: 32 :: hexD (k / 100) :: hexD (k / 10 % 10) :: hexD (k % 10) :: 32 :: bl r := by
  obtain ⟨⟨h1, h2⟩, h3, h4⟩ := okSt_of h
  refine ⟨st.toNat, by omega, by omega, by omega, ?_⟩
  unfold fmtSt
  rw [if_pos h, bl_bs, digs3 (n := st.toNat) (by omega) (by omega)]
  rcases h3 with rfl | rfl
  · refine ⟨48, Or.inl ⟨rfl, rfl⟩, ?_⟩
    rw [show (0 : Int).toNat = 0 from rfl, digs0]; rfl
  · refine ⟨49, Or.inr ⟨rfl, rfl⟩, ?_⟩
    rw [show (1 : Int).toNat = 1 from rfl, digs1]; rfl
/-- a reply's line is parsed to the same status, reason and version -/
theorem parse_fmtSt {st n : Int} {r : ByteArray} (h : okSt st r n = true) : parseSt (fmtSt st r n) = some (st, r, n) := by
  obtain ⟨k, hk, k1, k2, v, hv, hb⟩ := fmtSt_bl h
  have hvis := (okSt_of h).2.2
  have hsz : (fmtSt st r n).size = r.size + 13 := by rw [← bl_length, hb, ← bl_length r]; rfl
  have e8 : bl ((fmtSt st r n).extract 0 8) = [72, 84, 84, 80, 47, 49, 46, v] := by rw [bl_extract, hb]; rfl
  have e12 : bl ((fmtSt st r n).extract 9 12) = digs 10 k := by rw [bl_extract, hb, digs3 k1 (by omega)]; rfl
  have er : reasonB (fmtSt st r n) = r := by
    unfold reasonB
    rw [if_pos (by omega)]
    refine bl_inj ?_
    rw [bl_extract, hb, List.take_of_length_le (by rw [hsz]; simp [bl_length])]
    rfl
  have em : minorB ((fmtSt st r n).extract 0 8) = (n, 0) := by
    rcases hv with ⟨rfl, rfl⟩ | ⟨rfl, rfl⟩
    · rw [show (fmtSt st r 0).extract 0 8 = http10 from bl_inj e8]; exact minorB_10 (seq_self _)
    · rw [show (fmtSt st r 1).extract 0 8 = http11 from bl_inj e8]; exact minorB_11 (by decide +kernel) (seq_self _)
  have eN := parseN_digs k1 k2
  rw [← e12] at eN
  have hl : stLine (fmtSt st r n) = true := by
    unfold stLine
    rw [em, hb, hsz]
    simp
  have k3 : decide (100 ≤ (k : Int)) = true := decide_eq_true (by omega)
  unfold parseSt
  rw [hl, eN, er, hvis, em, hk]
  simp only [k3]
  rfl
theorem fmtSt_no {st n : Int} {r : ByteArray} (h : okSt st r n = false) : fmtSt st r n = .empty := by unfold fmtSt; rw [h]; rfl
theorem fmtReq_no {m t : ByteArray} {n : Int} (h : okReq m t n = false) : fmtReq m t n = .empty := by unfold fmtReq; rw [h]; rfl
theorem parseSt_empty : parseSt .empty = none := parseSt_no (by decide +kernel)
theorem fmtSt_ne {st n : Int} {r : ByteArray} (h : okSt st r n = true) : fmtSt st r n ≠ .empty := by
  obtain ⟨k, hk, k1, k2, v, hv, hb⟩ := fmtSt_bl h
  intro e
  rw [e] at hb
  cases hb
theorem fmtSt_size (st n : Int) (r : ByteArray) : (fmtSt st r n).size ≤ r.size + 13 := by
  cases h : okSt st r n with
  | false => rw [fmtSt_no h]; simp
  | true =>
    obtain ⟨k, hk, k1, k2, v, hv, hb⟩ := fmtSt_bl h
    rw [← bl_length, hb, ← bl_length r]
    exact Nat.le_refl _

/-! ### a status line behind its first blank -/
def reasonR (r : ByteArray) : ByteArray := if 3 < r.size then r.extract 4 r.size else .empty
def okRest (r : ByteArray) : Bool := decide (3 ≤ r.size) && (decide (r.size ≤ 3) || ((bl r).getD 3 0 == 32)) && ((parseN 10 599 (bl (r.extract 0 3))).2 == 0) && decide (100 ≤ (parseN 10 599 (bl (r.extract 0 3))).1) && visible (bl (reasonR r))
def stRest (r : ByteArray) (n : Int) : Option (Int × ByteArray × Int) :=
  if okRest r then some ((parseN 10 599 (bl (r.extract 0 3))).1, reasonR r, n) else none
theorem stRest_no {r : ByteArray} {n : Int} (h : okRest r = false) : stRest r n = none := by unfold stRest; rw [h]; rfl
theorem stRest_short {r : ByteArray} {n : Int} (h : r.size < 3) : stRest r n = none := stRest_no (by unfold okRest; rw [decide_eq_false (by omega)]; rfl)
theorem stRest_sp {r : ByteArray} {n : Int} (h : 3 < r.size) (h2 : (bl r)[3]'(by rw [bl_length]; exact h) ≠ 32) : stRest r n = none := stRest_no (by
  unfold okRest
  rw [List.getD_eq_getElem?_getD, List.getElem?_eq_getElem (by rw [bl_length]; exact h), decide_eq_false (show ¬ r.size ≤ 3 by omega)]
  simp [h2])
theorem stRest_num {r : ByteArray} {n : Int} (h : (parseN 10 599 (bl (r.extract 0 3))).2 ≠ 0) : stRest r n = none := stRest_no (by
  unfold okRest; rw [show ((parseN 10 599 (bl (r.extract 0 3))).2 == 0) = false by simpa using h]; simp)
theorem stRest_low {r : ByteArray} {n : Int} (h : (parseN 10 599 (bl (r.extract 0 3))).1 < 100) : stRest r n = none := stRest_no (by
  unfold okRest; rw [decide_eq_false (show ¬ 100 ≤ (parseN 10 599 (bl (r.extract 0 3))).1 by omega)]; simp)
theorem stRest_vis {r : ByteArray} {n : Int} (h : visible (bl (reasonR r)) = false) : stRest r n = none := stRest_no (by unfold okRest; rw [h]; simp)
theorem stRest_ok {r : ByteArray} {n : Int} (h : 3 ≤ r.size) (h2 : r.size = 3 ∨ ∃ h : 3 < r.size, (bl r)[3]'(by rw [bl_length]; exact h) = 32) (h3 : (parseN 10 599 (bl (r.extract 0 3))).2 = 0) (h4 : ¬ (parseN 10 599 (bl (r.extract 0 3))).1 < 100) (h5 : visible (bl (reasonR r)) = true) :
    stRest r n = some ((parseN 10 599 (bl (r.extract 0 3))).1, reasonR r, n) := by
  have : okRest r = true := by
    unfold okRest
    rw [h3, h5, decide_eq_true h, decide_eq_true (show 100 ≤ (parseN 10 599 (bl (r.extract 0 3))).1 by omega)]
    rcases h2 with e | ⟨e, e2⟩
    · rw [decide_eq_true (show r.size ≤ 3 by omega)]; rfl
    · rw [List.getD_eq_getElem?_getD, List.getElem?_eq_getElem (by rw [bl_length]; exact e), e2]; simp
  unfold stRest; rw [this]; rfl
theorem parseSt_rest {s : ByteArray} (h : hasB (bl s) 32 = true) (hm : (minorB (bs (before 32 (bl s)))).2 = 0) : parseSt s = stRest (bs (behind 32 (bl s))) (minorB (bs (before 32 (bl s)))).1 := by
  obtain ⟨e1, e2, e3, e4⟩ := st_of h hm
  rw [e1] at hm ⊢
  rw [e2]
  have z : (s.extract 9 s.size).size = s.size - 9 := by simp [ByteArray.size_extract]
  have x3 : (s.extract 9 s.size).extract 0 3 = s.extract 9 12 := bl_inj (by rw [bl_extract, bl_extract, bl_extract, List.take_of_length_le (Nat.le_of_eq (bl_length s)), List.drop_zero, List.take_drop])
  have g3 : (bl (s.extract 9 s.size)).getD 3 0 = (bl s).getD 12 0 := by
    rw [bl_extract, List.take_of_length_le (Nat.le_of_eq (bl_length s)), List.getD_eq_getElem?_getD, List.getElem?_drop, ← List.getD_eq_getElem?_getD]
  have hr : 12 ≤ s.size → reasonR (s.extract 9 s.size) = reasonB s := by
    intro h12
    unfold reasonR reasonB
    rw [z]
    by_cases c : 12 < s.size
    · rw [if_pos (by omega), if_pos c]
      refine bl_inj ?_
      rw [bl_extract, bl_extract, bl_extract, List.take_of_length_le (Nat.le_of_eq (bl_length s)), List.take_of_length_le (by rw [List.length_drop, bl_length]; omega), List.drop_drop]
    · rw [if_neg (by omega), if_neg c]
  by_cases h12 : 12 ≤ s.size
  · have : okRest (s.extract 9 s.size) = (stLine s && ((parseN 10 599 (bl (s.extract 9 12))).2 == 0) && decide (100 ≤ (parseN 10 599 (bl (s.extract 9 12))).1) && visible (bl (reasonB s))) := by
      unfold okRest stLine
      rw [z, x3, g3, hm, e3, hr h12, decide_eq_true h12, decide_eq_true (show 3 ≤ s.size - 9 by omega)]
      by_cases c : s.size ≤ 12
      · rw [decide_eq_true c, decide_eq_true (show s.size - 9 ≤ 3 by omega)]; simp
      · rw [decide_eq_false c, decide_eq_false (show ¬ s.size - 9 ≤ 3 by omega)]; simp
    unfold parseSt stRest
    rw [this, x3, hr h12]
  · rw [stRest_short (by omega), parseSt_no (by unfold stLine; rw [decide_eq_false h12]; rfl)]
end Go.Own
