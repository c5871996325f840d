/- Plain laws on cookies: the pairs of a Cookie value, the first pair with a name, IDs. No program stands here. -/
import Derived.Test.YthohdgjjlkeclaaDoorFmtP
namespace Go.Own
set_option linter.unusedVariables false

instance : DecidableEq Fld := fun a b => decidable_of_iff (a.name = b.name ∧ a.val = b.val) ⟨fun ⟨h1, h2⟩ => by cases a; cases b; simp only at h1 h2; rw [h1, h2], fun h => by rw [h]; exact ⟨rfl, rfl⟩⟩

/-- the pair of one part of a value -/
def pairF (s : ByteArray) : Option Fld :=
  if hasB (bl (trimB s)) 61 && token (before 61 (bl (trimB s))) then some ⟨bs (before 61 (bl (trimB s))), bs (behind 61 (bl (trimB s)))⟩ else none
def pairsP (ps : List ByteArray) : List Fld := ps.filterMap pairF
def pairsS (vals : List ByteArray) : List Fld := vals.flatMap fun v => pairsP (splitS 59 v)
def findP (l : List Fld) (name : ByteArray) : Option Fld := l.find? fun p => seq p.name name

theorem pairF_yes {s : ByteArray} (h1 : hasB (bl (trimB s)) 61 = true) (h2 : token (before 61 (bl (trimB s))) = true) : pairF s = some ⟨bs (before 61 (bl (trimB s))), bs (behind 61 (bl (trimB s)))⟩ := by unfold pairF; rw [h1, h2]; rfl
theorem pairF_no1 {s : ByteArray} (h1 : hasB (bl (trimB s)) 61 = false) : pairF s = none := by unfold pairF; rw [h1]; rfl
theorem pairF_no2 {s : ByteArray} (h2 : token (before 61 (bl (trimB s))) = false) : pairF s = none := by unfold pairF; rw [h2, Bool.and_false]; rfl
theorem cut_ext {c : UInt8} {t : ByteArray} {k : Nat} (h : hasB (bl t) c = true ∧ before c (bl t) = (bl t).take k ∧ behind c (bl t) = (bl t).drop (k + 1)) : bs (before c (bl t)) = t.extract 0 k ∧ bs (behind c (bl t)) = t.extract (k + 1) t.size :=
  ⟨bl_inj (by rw [bl_bs, h.2.1, bl_extract, List.drop_zero]), bl_inj (by rw [bl_bs, h.2.2, bl_extract, List.take_of_length_le (by rw [bl_length]; exact Nat.le_refl _)])⟩
theorem pairsP_append (a b : List ByteArray) : pairsP (a ++ b) = pairsP a ++ pairsP b := List.filterMap_append
theorem pairsP_yes (ps : List ByteArray) (j : Nat) (h : j < ps.length) {p : Fld} (hp : pairF ps[j] = some p) : pairsP (ps.take (j + 1)) = pairsP (ps.take j) ++ [p] := by
  rw [List.take_succ_eq_append_getElem h, pairsP_append]
  simp [pairsP, hp]
theorem pairsP_no (ps : List ByteArray) (j : Nat) (h : j < ps.length) (hp : pairF ps[j] = none) : pairsP (ps.take (j + 1)) = pairsP (ps.take j) := by
  rw [List.take_succ_eq_append_getElem h, pairsP_append]
  simp [pairsP, hp]
theorem pairsS_append (a b : List ByteArray) : pairsS (a ++ b) = pairsS a ++ pairsS b := List.flatMap_append
theorem pairsS_succ (l : List ByteArray) (k : Nat) (h : k < l.length) : pairsS (l.take (k + 1)) = pairsS (l.take k) ++ pairsP (splitS 59 l[k]) := by
  rw [List.take_succ_eq_append_getElem h, pairsS_append]
  simp [pairsS]
theorem pairsS_part_le (l : List ByteArray) (k : Nat) (h : k < l.length) (j : Nat) : (pairsS (l.take k) ++ pairsP ((splitS 59 l[k]).take j)).length ≤ (pairsS l).length := by
  have e1 : pairsS l = pairsS (l.take (k + 1)) ++ pairsS (l.drop (k + 1)) := by rw [← pairsS_append, List.take_append_drop]
  have e2 : pairsP (splitS 59 l[k]) = pairsP ((splitS 59 l[k]).take j) ++ pairsP ((splitS 59 l[k]).drop j) := by rw [← pairsP_append, List.take_append_drop]
  rw [e1, pairsS_succ l k h, e2]
  simp only [List.length_append]
  omega
theorem pairsS_length (l : List ByteArray) : (pairsS l).length ≤ (l.map fun s => s.size + 1).sum := by
  induction l with
  | nil => simp [pairsS]
  | cons s l ih =>
    have e : pairsS (s :: l) = pairsP (splitS 59 s) ++ pairsS l := by simp [pairsS]
    rw [e, List.length_append, List.map_cons, List.sum_cons]
    have h1 : (pairsP (splitS 59 s)).length ≤ (splitS 59 s).length := List.length_filterMap_le _ _
    have h2 := splitS_length 59 s
    omega
theorem pairF_size {s : ByteArray} {p : Fld} (h : pairF s = some p) : p.name.size ≤ s.size ∧ p.val.size ≤ s.size := by
  unfold pairF at h
  split at h
  · injection h with h
    subst h
    have h1 := before_len 61 (bl (trimB s))
    have h2 := behind_len 61 (bl (trimB s))
    have h3 := trimB_size s
    rw [bl_length] at h1 h2
    exact ⟨by rw [bs_size]; omega, by rw [bs_size]; omega⟩
  · cases h
theorem pairsS_mem {l : List ByteArray} {p : Fld} (h : p ∈ pairsS l) : ∃ s ∈ l, p.name.size ≤ s.size ∧ p.val.size ≤ s.size := by
  obtain ⟨s, hs, hp⟩ := List.mem_flatMap.1 h
  obtain ⟨q, hq, hqp⟩ := List.mem_filterMap.1 hp
  have h1 := pairF_size hqp
  have h2 := splitS_size 59 s q hq
  exact ⟨s, hs, by omega, by omega⟩
theorem findP_hit (l : List Fld) (name : ByteArray) (k : Nat) (h : k < l.length) (hn : findP (l.take k) name = none) (he : seq l[k].name name = true) : findP l name = some l[k] := by
  have e : l = l.take k ++ l[k] :: l.drop (k + 1) := by rw [← List.drop_eq_getElem_cons h, List.take_append_drop]
  unfold findP at hn ⊢
  conv => lhs; rw [e]
  rw [List.find?_append, hn, Option.none_or, List.find?_cons_of_pos (p := fun p : Fld => seq p.name name) he]
theorem findP_skip (l : List Fld) (name : ByteArray) (k : Nat) (h : k < l.length) (hn : findP (l.take k) name = none) (he : seq l[k].name name = false) : findP (l.take (k + 1)) name = none := by
  unfold findP at hn ⊢
  rw [List.take_succ_eq_append_getElem h, List.find?_append, hn, Option.none_or, List.find?_cons_of_neg (p := fun p : Fld => seq p.name name) (by simp [he])]; rfl
theorem findP_end (l : List Fld) (name : ByteArray) (k : Nat) (h : l.length ≤ k) (hn : findP (l.take k) name = none) : findP l name = none := by rwa [List.take_of_length_le h] at hn
theorem findP_mem {l : List Fld} {name : ByteArray} {p : Fld} (h : findP l name = some p) : p ∈ l := List.mem_of_find?_eq_some h

/-! ### IDs -/
def hexc (c : UInt8) : Bool := digitB c || decide (97 ≤ c.toNat) && decide (c.toNat ≤ 102)
def idB (s : ByteArray) : Bool := (bl s).all hexc && s.size == 16
end Go.Own
