/- Plain laws: a cookie is found again. No program stands here. -/
import Derived.Test.YthohdgjjlkeclaaDoorPairP
import Derived.Test.YthohdgjjlkeclaaDoorNumP
namespace Go.Own
set_option linter.unusedVariables false

theorem splitS_two {p r : List UInt8} (h : hasB p 59 = false) : splitS 59 (bs (p ++ 59 :: r)) = bs p :: splitS 59 (bs r) := by
  unfold splitS
  rw [bl_bs, bl_bs, splitBy_append, splitBy_end 59 p h]; rfl
theorem splitS_last {p : List UInt8} (h : hasB p 59 = false) : splitS 59 (bs p) = [bs p] := by
  unfold splitS
  rw [bl_bs, splitBy_end 59 p h]; rfl
theorem dropWhile_snoc {p : UInt8 → Bool} (s : List UInt8) {c : UInt8} {t : List UInt8} (hc : p c = false) : (s ++ c :: t).dropWhile p = s.dropWhile p ++ c :: t := by
  induction s with
  | nil => simp [hc]
  | cons x s ih => by_cases hx : p x = true <;> simp [hx, ih]
theorem trimR_append {l s : List UInt8} {c : UInt8} (hc : blankB c = false) : trimR (l ++ c :: s) = l ++ c :: trimR s := by
  unfold trimR
  rw [List.reverse_append, List.reverse_cons, List.append_assoc, List.singleton_append, dropWhile_snoc _ hc, List.reverse_append, List.reverse_cons, List.reverse_reverse, List.append_assoc]; rfl
theorem trimL_head {c : UInt8} {r : List UInt8} (hc : blankB c = false) : trimL (c :: r) = c :: r := by simp [trimL, hc]
/-- 'n=s', n beginning with no blank -/
theorem trim_named {c : UInt8} {n s : List UInt8} (hc : blankB c = false) : trim (c :: n ++ 61 :: s) = c :: n ++ 61 :: trimR s := by
  unfold trim
  rw [List.cons_append, trimL_head hc, ← List.cons_append, trimR_append (by decide +kernel)]
theorem pairF_named {c : UInt8} {n s : List UInt8} (hc : blankB c = false) (ht : token (c :: n) = true) (he : hasB (c :: n) 61 = false) : pairF (bs (c :: n ++ 61 :: s)) = some ⟨bs (c :: n), bs (trimR s)⟩ := by
  have e : bl (trimB (bs (c :: n ++ 61 :: s))) = c :: n ++ 61 :: trimR s := by rw [trimB, bl_bs, bl_bs, trim_named hc]
  have hb := before_of (r := trimR s) he
  rw [pairF_yes (by rw [e]; exact hb.1) (by rw [e, hb.2.1]; exact ht), e, hb.2.1, hb.2.2]
theorem pairF_blank {b : UInt8} {l : List UInt8} (hb : blankB b = true) : pairF (bs (b :: l)) = pairF (bs l) := by
  have e : trimB (bs (b :: l)) = trimB (bs l) := by rw [trimB, trimB, bl_bs, bl_bs, trim_cons _ _ hb]
  unfold pairF; rw [e]
theorem hexc_not {c d : UInt8} (h : hexc c = true) (hd : hexc d = false) : c ≠ d := by rintro rfl; rw [h] at hd; cases hd
theorem hex_no {l : List UInt8} {d : UInt8} (h : l.all hexc = true) (hd : hexc d = false) : hasB l d = false := by
  unfold hasB
  rw [List.any_eq_false]
  intro x hx e
  rw [beq_iff_eq] at e
  exact hexc_not (List.all_eq_true.1 h x hx) hd e
theorem hex_blank {c : UInt8} (h : hexc c = true) : blankB c = false := by
  cases hb : blankB c with
  | false => rfl
  | true =>
    exfalso
    simp [hexc, digitB] at h
    simp [blankB] at hb
    omega
theorem trimR_hex {l : List UInt8} (h : l.all hexc = true) : trimR l = l := by
  rcases List.eq_nil_or_concat l with rfl | ⟨r, c, rfl⟩
  · rfl
  · have hc : hexc c = true := List.all_eq_true.1 h c (by simp)
    rw [List.concat_eq_append, trimR_append (s := []) (hex_blank hc)]; rfl
theorem idOf_all (h : Nat) : (bl (idOf h)).all hexc = true := by
  rw [idOf, bl_bs, List.all_eq_true]
  intro c hc
  obtain ⟨d, hd, rfl⟩ := hexN_mem hc
  have := hexD_hex d hd
  simp [hexc, digitB]
  omega
theorem hasB_append (l r : List UInt8) (c : UInt8) : hasB (l ++ r) c = (hasB l c || hasB r c) := List.any_append
theorem findP_cons_yes {p : Fld} {l : List Fld} {name : ByteArray} (h : seq p.name name = true) : findP (p :: l) name = some p := by unfold findP; exact List.find?_cons_of_pos (p := fun p : Fld => seq p.name name) h
theorem findP_cons_no {p : Fld} {l : List Fld} {name : ByteArray} (h : seq p.name name = false) : findP (p :: l) name = findP l name := by unfold findP; exact List.find?_cons_of_neg (p := fun p : Fld => seq p.name name) (by simp [h])
theorem pairsP_cons_some {s : ByteArray} {l : List ByteArray} {p : Fld} (h : pairF s = some p) : pairsP (s :: l) = p :: pairsP l := by simp [pairsP, h]

def nameC : ByteArray := ⟨#[99]⟩
theorem part_c (x : ByteArray) (h : (bl x).all hexc = true) : pairF (bs (99 :: 61 :: bl x)) = some ⟨nameC, x⟩ := by
  have := pairF_named (c := 99) (n := []) (s := bl x) (by decide +kernel) (by decide +kernel) (by decide +kernel)
  rw [trimR_hex h, bs_bl] at this
  exact this
theorem no59_c {x : ByteArray} (h : (bl x).all hexc = true) : hasB (99 :: 61 :: bl x) 59 = false := by
  have := hex_no h (d := 59) (by decide +kernel)
  simp only [hasB, List.any_cons] at this ⊢
  rw [this]; decide
/-- 'c=X; c=Y' -/
theorem find_first (x y : ByteArray) (h : (bl x).all hexc = true) : findP (pairsS [(⟨#[99, 61]⟩ : ByteArray) ++ x ++ ⟨#[59, 32, 99, 61]⟩ ++ y]) nameC = some ⟨nameC, x⟩ := by
  have e : (⟨#[99, 61]⟩ : ByteArray) ++ x ++ ⟨#[59, 32, 99, 61]⟩ ++ y = bs ((99 :: 61 :: bl x) ++ 59 :: (32 :: 99 :: 61 :: bl y)) := by
    apply bl_inj
    rw [bl_append, bl_append, bl_append, bl_bs]
    simp [bl]
  unfold pairsS
  rw [e, List.flatMap_cons, List.flatMap_nil, List.append_nil, splitS_two (no59_c h), pairsP_cons_some (part_c x h), findP_cons_yes (seq_self _)]
theorem find_second (x y : ByteArray) (h : (bl x).all hexc = true) : findP (pairsS [(⟨#[99, 61]⟩ : ByteArray) ++ x, (⟨#[99, 61]⟩ : ByteArray) ++ y]) nameC = some ⟨nameC, x⟩ := by
  have e : (⟨#[99, 61]⟩ : ByteArray) ++ x = bs (99 :: 61 :: bl x) := by
    apply bl_inj
    rw [bl_append, bl_bs]
    simp [bl]
  unfold pairsS
  rw [e, List.flatMap_cons, splitS_last (no59_c h), pairsP_cons_some (part_c x h), List.cons_append, findP_cons_yes (seq_self _)]

def nameCohort : ByteArray := ⟨#[99, 111, 104, 111, 114, 116]⟩
theorem part_cohort (x : ByteArray) (h : (bl x).all hexc = true) : pairF (bs (32 :: 99 :: 111 :: 104 :: 111 :: 114 :: 116 :: 61 :: bl x)) = some ⟨nameCohort, x⟩ := by
  rw [pairF_blank (by decide +kernel)]
  have := pairF_named (c := 99) (n := [111, 104, 111, 114, 116]) (s := bl x) (by decide +kernel) (by decide +kernel) (by decide +kernel)
  rw [trimR_hex h, bs_bl] at this
  exact this
/-- 'x=..; cohort=ID; y=..' -/
theorem find_found (x : ByteArray) (s1 s2 : List UInt8) (h : (bl x).all hexc = true) (h1 : hasB s1 59 = false) :
    findP (pairsS [(⟨#[120, 61]⟩ : ByteArray) ++ bs s1 ++ ⟨#[59, 32]⟩ ++ ((⟨#[99, 111, 104, 111, 114, 116, 61]⟩ : ByteArray) ++ x) ++ ⟨#[59, 32, 121, 61]⟩ ++ bs s2]) nameCohort = some ⟨nameCohort, x⟩ := by
  have e : (⟨#[120, 61]⟩ : ByteArray) ++ bs s1 ++ ⟨#[59, 32]⟩ ++ ((⟨#[99, 111, 104, 111, 114, 116, 61]⟩ : ByteArray) ++ x) ++ ⟨#[59, 32, 121, 61]⟩ ++ bs s2 = bs ((120 :: 61 :: s1) ++ 59 :: ((32 :: 99 :: 111 :: 104 :: 111 :: 114 :: 116 :: 61 :: bl x) ++ 59 :: (32 :: 121 :: 61 :: s2))) := by
    apply bl_inj
    rw [bl_append, bl_append, bl_append, bl_append, bl_append, bl_bs, bl_bs, bl_bs]
    simp [bl]
  have n1 : hasB (120 :: 61 :: s1) 59 = false := by
    simp only [hasB, List.any_cons] at h1 ⊢
    rw [h1]; decide
  have n2 : hasB (32 :: 99 :: 111 :: 104 :: 111 :: 114 :: 116 :: 61 :: bl x) 59 = false := by
    have := hex_no h (d := 59) (by decide +kernel)
    simp only [hasB, List.any_cons] at this ⊢
    rw [this]; decide
  have p1 : pairF (bs (120 :: 61 :: s1)) = some ⟨bs [120], bs (trimR s1)⟩ := pairF_named (c := 120) (n := []) (s := s1) (by decide +kernel) (by decide +kernel) (by decide +kernel)
  unfold pairsS
  rw [e, List.flatMap_cons, List.flatMap_nil, List.append_nil, splitS_two n1, pairsP_cons_some p1, findP_cons_no (p := ⟨bs [120], bs (trimR s1)⟩) (show seq (bs [120]) nameCohort = false by decide +kernel), splitS_two n2, pairsP_cons_some (part_cohort x h), findP_cons_yes (seq_self _)]
end Go.Own
