/- Plain laws on heads that are read: the fields, the request and the reply; that what is formatted is read back. No program stands here. -/
import Derived.Test.YtglljdhhgmgbgaaDoorPA
import Derived.Test.YtglljdhhgmgbgaaDoorNamed
namespace Go.Own
open Go.Proofs.YtglljdhhgmgbgaaDoor
set_option linter.unusedVariables false

def linesS (b : List UInt8) : Option (List ByteArray) := (linesP b).map (·.map bs)
def parsedS (l : List ByteArray) : Bool := l.all fun s => (parseF s).isSome
def fieldsOf (l : List ByteArray) : List Fld := l.filterMap parseF
/-- what fields returns -/
def fieldsP (l : List ByteArray) : List Fld × Int := if 64 < l.length then ([], 3) else if parsedS l then (fieldsOf l, 0) else ([], 2)
theorem fieldsP_many {l : List ByteArray} (h : 64 < l.length) : fieldsP l = ([], 3) := by unfold fieldsP; rw [if_pos h]
theorem fieldsP_bad {l : List ByteArray} (h : ¬ 64 < l.length) (k : Nat) (hk : k < l.length) (hp : parseF l[k] = none) : fieldsP l = ([], 2) := by
  unfold fieldsP
  rw [if_neg h, if_neg]
  unfold parsedS
  rw [Bool.not_eq_true, List.all_eq_false]
  exact ⟨l[k], List.getElem_mem hk, by simp [hp]⟩
theorem fieldsP_ok {l : List ByteArray} (h : ¬ 64 < l.length) (hp : parsedS l = true) : fieldsP l = (fieldsOf l, 0) := by
  unfold fieldsP; rw [if_neg h, if_pos hp]
theorem fieldsOf_succ {l : List ByteArray} {k : Nat} {f : Fld} (hk : k < l.length) (hp : parseF l[k] = some f) : fieldsOf (l.take (k + 1)) = fieldsOf (l.take k) ++ [f] := by
  unfold fieldsOf
  rw [List.take_succ_eq_append_getElem hk, List.filterMap_append]
  simp [hp]
theorem parsedS_succ {l : List ByteArray} {k : Nat} {f : Fld} (hk : k < l.length) (ht : parsedS (l.take k) = true) (hp : parseF l[k] = some f) : parsedS (l.take (k + 1)) = true := by
  unfold parsedS at ht ⊢
  rw [List.take_succ_eq_append_getElem hk, List.all_append, ht]
  simp [hp]
theorem fieldsP_bd (l : List ByteArray) : (fieldsP l).1.length ≤ 64 ∧ ((fieldsP l).2 = 0 ∨ (fieldsP l).2 = 2 ∨ (fieldsP l).2 = 3) := by
  unfold fieldsP
  split
  · simp
  · split
    · refine ⟨?_, Or.inl rfl⟩
      have := List.length_filterMap_le parseF l
      show (l.filterMap parseF).length ≤ 64
      omega
    · simp
theorem fieldsP_no {l : List ByteArray} (h : (fieldsP l).2 ≠ 0) : (fieldsP l).1 = [] := by
  unfold fieldsP at h ⊢
  split
  · rfl
  · split
    · rename_i h1 h2; rw [if_neg h1, if_pos h2] at h; exact absurd rfl h
    · rfl

def hHost : ByteArray := ⟨#[72, 111, 115, 116]⟩
/-- not just one Host -/
def hostsBad (x : List Fld) (n : Int) : Bool := decide (1 < (valuesS x hHost).length) || ((valuesS x hHost).length == 0) && (n == 1)
theorem values_host (x : List Fld) : valuesS x ⟨#[104, 111, 115, 116]⟩ = valuesS x hHost := by
  unfold valuesS
  have e : lowerB ⟨#[104, 111, 115, 116]⟩ = lowerB hHost := by decide +kernel
  have e2 : ∀ f : Fld, foldB f.name ⟨#[104, 111, 115, 116]⟩ = foldB f.name hHost := fun f => by unfold foldB; rw [e]
  simp only [e2]

/-- the request of a head -/
def reqB (b : List UInt8) : (ByteArray × ByteArray × Int × List Fld) × Int :=
  match linesS b with
  | some (s :: r) => match parseReq s with
    | (some (m, t, n), _) => if (fieldsP r).2 = 0 then (if hostsBad (fieldsP r).1 n then ((.empty, .empty, 0, []), 2) else ((m, t, n, (fieldsP r).1), 0)) else ((.empty, .empty, 0, []), (fieldsP r).2)
    | (none, e) => ((.empty, .empty, 0, []), e)
  | _ => ((.empty, .empty, 0, []), 2)
theorem reqB_none {b : List UInt8} (h : linesS b = none) : reqB b = ((.empty, .empty, 0, []), 2) := by unfold reqB; rw [h]
theorem reqB_line {b : List UInt8} {s : ByteArray} {r : List ByteArray} {e : Int} (h : linesS b = some (s :: r)) (hp : parseReq s = (none, e)) : reqB b = ((.empty, .empty, 0, []), e) := by
  unfold reqB; rw [h]; simp only; rw [hp]
theorem reqB_fields {b : List UInt8} {s m t : ByteArray} {n : Int} {r : List ByteArray} {e : Int} (h : linesS b = some (s :: r)) (hp : parseReq s = (some (m, t, n), 0)) (hf : (fieldsP r).2 ≠ 0) : reqB b = ((.empty, .empty, 0, []), (fieldsP r).2) := by
  unfold reqB; rw [h]; simp only; rw [hp]; simp only; rw [if_neg hf]
theorem reqB_hosts {b : List UInt8} {s m t : ByteArray} {n : Int} {r : List ByteArray} {e : Int} (h : linesS b = some (s :: r)) (hp : parseReq s = (some (m, t, n), 0)) (hf : (fieldsP r).2 = 0) (hh : hostsBad (fieldsP r).1 n = true) : reqB b = ((.empty, .empty, 0, []), 2) := by
  unfold reqB; rw [h]; simp only; rw [hp]; simp only; rw [if_pos hf, if_pos hh]
theorem reqB_ok {b : List UInt8} {s m t : ByteArray} {n : Int} {r : List ByteArray} (h : linesS b = some (s :: r)) (hp : parseReq s = (some (m, t, n), 0)) (hf : (fieldsP r).2 = 0) (hh : hostsBad (fieldsP r).1 n = false) : reqB b = ((m, t, n, (fieldsP r).1), 0) := by
  unfold reqB; rw [h]; simp only; rw [hp]; simp only; rw [if_pos hf, if_neg (by simp [hh])]
theorem parseReq_cases (s : ByteArray) : (∃ m t n, parseReq s = (some (m, t, n), 0)) ∨ ∃ e, e ≠ 0 ∧ parseReq s = (none, e) := by
  unfold parseReq
  split
  · split
    · split
      · exact Or.inl ⟨_, _, _, rfl⟩
      · rename_i h; exact Or.inr ⟨_, h, rfl⟩
    · exact Or.inr ⟨2, by decide, rfl⟩
  · exact Or.inr ⟨2, by decide, rfl⟩

/-- the reply of a head -/
def repB (b : List UInt8) : (Int × ByteArray × Int × List Fld) × Int :=
  match linesS b with
  | some (s :: r) => match parseSt s with
    | some (st, rs, n) => if (fieldsP r).2 = 0 then ((st, rs, n, (fieldsP r).1), 0) else ((0, .empty, 0, []), (fieldsP r).2)
    | none => ((0, .empty, 0, []), 2)
  | _ => ((0, .empty, 0, []), 2)
theorem repB_none {b : List UInt8} (h : linesS b = none) : repB b = ((0, .empty, 0, []), 2) := by unfold repB; rw [h]
theorem repB_line {b : List UInt8} {s : ByteArray} {r : List ByteArray} (h : linesS b = some (s :: r)) (hp : parseSt s = none) : repB b = ((0, .empty, 0, []), 2) := by
  unfold repB; rw [h]; simp only; rw [hp]
theorem repB_fields {b : List UInt8} {s rs : ByteArray} {st n : Int} {r : List ByteArray} (h : linesS b = some (s :: r)) (hp : parseSt s = some (st, rs, n)) (hf : (fieldsP r).2 ≠ 0) : repB b = ((0, .empty, 0, []), (fieldsP r).2) := by
  unfold repB; rw [h]; simp only; rw [hp]; simp only; rw [if_neg hf]
theorem repB_ok {b : List UInt8} {s rs : ByteArray} {st n : Int} {r : List ByteArray} (h : linesS b = some (s :: r)) (hp : parseSt s = some (st, rs, n)) (hf : (fieldsP r).2 = 0) : repB b = ((st, rs, n, (fieldsP r).1), 0) := by
  unfold repB; rw [h]; simp only; rw [hp]; simp only; rw [if_pos hf]
theorem linesS_cases (b : List UInt8) : linesS b = none ∨ ∃ s r, linesS b = some (s :: r) := by
  unfold linesS linesP
  split
  · split
    · obtain ⟨a, r, h⟩ := pieces_ne (b.take (b.length - 4))
      right; exact ⟨bs a, r.map bs, by rw [h]; rfl⟩
    · exact Or.inl rfl
  · exact Or.inl rfl

/-! ### what is formatted is read back -/
theorem pieces_join : ∀ (L : List (List UInt8)) (r : List UInt8), (∀ l ∈ L, clean l = true) → pieces (L.flatMap (fun l => l ++ [13, 10]) ++ r) = L ++ pieces r
  | [], r, _ => rfl
  | l :: L, r, h => by
    rw [List.flatMap_cons, List.append_assoc, List.append_assoc]
    show pieces (l ++ 13 :: 10 :: (L.flatMap (fun l => l ++ [13, 10]) ++ r)) = _
    rw [pieces_clean (clean_iff.1 (h l (List.mem_cons_self ..))).1, pieces_join L r fun x hx => h x (List.mem_cons_of_mem _ hx)]; rfl
theorem pieces_nil {q : List UInt8} {x : List UInt8} (h : pieces q = [x]) : q = x := by
  rcases Lib.index_spec q crlf1 with ⟨h1, -⟩ | ⟨i, h1, -⟩
  · rw [pieces_miss h1] at h; simpa using h
  · rw [pieces_hit h1] at h
    obtain ⟨a, r, hp⟩ := pieces_ne (q.drop (i + 2))
    rw [hp] at h; cases h
theorem nil_unique : ∀ {α : Type} {A L B : List (List α)}, A ++ [] :: B = L ++ [[], []] → B ≠ [] → (∀ l ∈ L, l ≠ []) → B = [[]]
  | _, [], [], B, h, _, _ => by simpa using h
  | _, [], l :: L, B, h, _, hL => by
    have : [] = l := by injection h
    exact absurd this.symm (hL l (List.mem_cons_self ..))
  | _, a :: A, [], B, h, hB, _ => by
    have h2 : A ++ [] :: B = [[]] := by injection h
    cases A with
    | nil => exact absurd (by simpa using h2) hB
    | cons a' A => have := congrArg List.length h2; simp at this
  | _, a :: A, l :: L, B, h, hB, hL => nil_unique (A := A) (L := L) (by injection h) hB fun x hx => hL x (List.mem_cons_of_mem _ hx)
theorem pieces_mid (p q : List UInt8) : pieces (p ++ crlf2 ++ q) = pieces p ++ [] :: pieces q := by
  rw [List.append_assoc]
  show pieces (p ++ 13 :: 10 :: (13 :: 10 :: q)) = _
  rw [pieces_append _ _ _ rfl]
  congr 1
  exact pieces_clean (l := []) rfl
/-- a head of clean lines that are not empty -/
theorem end_join {L : List (List UInt8)} (h : ∀ l ∈ L, clean l = true) (hn : ∀ l ∈ L, l ≠ []) (h0 : L ≠ []) {b : List UInt8} (hb : b = L.flatMap (fun l => l ++ [13, 10]) ++ [13, 10]) : endP b = b.length := by
  have hp : pieces b = L ++ [[], []] := by rw [hb, pieces_join L _ h, pieces_crlf]
  have hlast : (b.take b.length).drop (b.length - 4) = crlf2 ∧ 4 ≤ b.length := by
    obtain ⟨l, hl⟩ : ∃ l, l = L.getLast h0 := ⟨_, rfl⟩
    have hL := List.dropLast_concat_getLast h0
    rw [← hL, List.flatMap_append, List.flatMap_cons, List.flatMap_nil, List.append_nil] at hb
    have e : b = (L.dropLast.flatMap (fun l => l ++ [13, 10]) ++ L.getLast h0) ++ crlf2 := by rw [hb]; simp [crlf2]
    have el : b.length = (L.dropLast.flatMap (fun l => l ++ [13, 10]) ++ L.getLast h0).length + 4 := by rw [e, List.length_append]; rfl
    refine ⟨?_, by omega⟩
    rw [List.take_length, el, Nat.add_sub_cancel]
    conv => lhs; rw [e]
    rw [List.drop_left]
  refine endP_at hlast.2 (Nat.le_refl _) hlast.1 ?_
  intro j hj hjl e
  have hs : b = b.take (j - 4) ++ crlf2 ++ b.drop j := by
    have h1 := List.take_append_drop j b
    have h2 := List.take_append_drop (j - 4) (b.take j)
    rw [e, List.take_take, Nat.min_eq_left (by omega)] at h2
    rw [← h2] at h1
    exact h1.symm
  have h3 := pieces_mid (b.take (j - 4)) (b.drop j)
  rw [← hs, hp] at h3
  obtain ⟨a, r, hq⟩ := pieces_ne (b.drop j)
  have h4 := nil_unique h3.symm (by rw [hq]; simp) hn
  have h5 := pieces_nil h4
  have := congrArg List.length h5
  rw [List.length_drop] at this
  simp at this
  omega
theorem linesP_join {L : List (List UInt8)} (h : ∀ l ∈ L, clean l = true) (hn : ∀ l ∈ L, l ≠ []) (h0 : L ≠ []) {b : List UInt8} (hb : b = L.flatMap (fun l => l ++ [13, 10]) ++ [13, 10]) : linesP b = some L := by
  have he := end_join h hn h0 hb
  have hp : pieces b = L ++ [[], []] := by rw [hb, pieces_join L _ h, pieces_crlf]
  rw [pieces_end he] at hp
  have hp2 : pieces (b.take (b.length - 4)) = L := List.append_cancel_right hp
  rw [linesP_ok he (by rw [hp2]; exact List.all_eq_true.2 h), hp2]

/-- the bytes of a field's line -/
def lineT (f : Fld) : List UInt8 := bl f.name ++ 58 :: 32 :: bl f.val
theorem no_of_all {p : UInt8 → Bool} {l : List UInt8} {c : UInt8} (h : l.all p = true) (hc : p c = false) : hasB l c = false := by
  cases hh : hasB l c with
  | false => rfl
  | true =>
    obtain ⟨x, hx, he⟩ := List.any_eq_true.1 hh
    have := List.all_eq_true.1 h x hx
    rw [beq_iff_eq.1 he, hc] at this
    cases this
theorem hB_append (a b : List UInt8) (c : UInt8) : hasB (a ++ b) c = (hasB a c || hasB b c) := by unfold hasB; rw [List.any_append]
theorem hB_cons (x : UInt8) (b : List UInt8) (c : UInt8) : hasB (x :: b) c = ((x == c) || hasB b c) := by unfold hasB; rw [List.any_cons]
theorem clean_append {a b : List UInt8} (h : clean a = true) (h2 : clean b = true) : clean (a ++ b) = true := by
  rw [clean_iff] at *
  rw [hB_append, hB_append, h.1, h.2, h2.1, h2.2]; simp
theorem clean_cons {x : UInt8} {b : List UInt8} (h : x ≠ 13) (h1 : x ≠ 10) (h2 : clean b = true) : clean (x :: b) = true := by
  rw [clean_iff] at *
  rw [hB_cons, hB_cons, h2.1, h2.2]; simp [h, h1]
theorem clean_token {l : List UInt8} (h : token l = true) : clean l = true := by
  unfold token at h
  rw [Bool.and_eq_true] at h
  exact clean_iff.2 ⟨no_of_all h.1 (by decide +kernel), no_of_all h.1 (by decide +kernel)⟩
theorem clean_vis {l : List UInt8} (h : l.all visB = true) : clean l = true := clean_iff.2 ⟨no_of_all h (by decide +kernel), no_of_all h (by decide +kernel)⟩
theorem clean_target {s : ByteArray} (h : targetB s = true) : clean (bl s) = true := by
  unfold targetB at h
  rw [Bool.and_eq_true] at h
  exact clean_iff.2 ⟨no_of_all h.1 (by decide +kernel), no_of_all h.1 (by decide +kernel)⟩
theorem lineT_ok {f : Fld} (h : validF f = true) : clean (lineT f) = true ∧ lineT f ≠ [] ∧ parseF (bs (lineT f)) = some f := by
  refine ⟨?_, by simp [lineT], parse_line h⟩
  unfold validF value at h
  rw [Bool.and_eq_true, Bool.and_eq_true] at h
  exact clean_append (clean_token h.1) (clean_cons (by decide) (by decide) (clean_cons (by decide) (by decide) (clean_vis h.2.1)))
theorem linesL_eq (x : List Fld) : linesL x = (x.map lineT).flatMap (fun l => l ++ [13, 10]) := by
  induction x with
  | nil => rfl
  | cons f x ih =>
    have : linesL (f :: x) = lineF f ++ linesL x := rfl
    rw [this, ih, List.map_cons, List.flatMap_cons]
    simp [lineF, lineT]
theorem lines_head {line : ByteArray} {x : List Fld} (h : line.toList.isEmpty = false) (hc : clean (bl line) = true) (hv : x.all validF = true) : linesS (headB line x) = some (line :: x.map fun f => bs (lineT f)) := by
  have hb : headB line x = (bl line :: x.map lineT).flatMap (fun l => l ++ [13, 10]) ++ [13, 10] := by
    rw [headB_ok h hv, List.flatMap_cons, linesL_eq]; simp
  have hm : ∀ l ∈ bl line :: x.map lineT, clean l = true ∧ l ≠ [] := by
    intro l hl
    rcases List.mem_cons.1 hl with rfl | hl
    · refine ⟨hc, fun e => ?_⟩
      rw [toList_bl, e] at h; cases h
    · obtain ⟨f, hf, rfl⟩ := List.mem_map.1 hl
      have := lineT_ok (List.all_eq_true.1 hv f hf)
      exact ⟨this.1, this.2.1⟩
  unfold linesS
  rw [linesP_join (fun l hl => (hm l hl).1) (fun l hl => (hm l hl).2) (by simp) hb]
  simp [bs_bl]
theorem fieldsP_lines {x : List Fld} (hv : x.all validF = true) : fieldsP (x.map fun f => bs (lineT f)) = if 64 < x.length then ([], 3) else (x, 0) := by
  have hp : parsedS (x.map fun f => bs (lineT f)) = true := by
    unfold parsedS
    rw [List.all_map, List.all_eq_true]
    intro f hf
    show (parseF (bs (lineT f))).isSome = true
    rw [(lineT_ok (List.all_eq_true.1 hv f hf)).2.2]; rfl
  have hf : fieldsOf (x.map fun f => bs (lineT f)) = x := by
    unfold fieldsOf
    rw [List.filterMap_map]
    clear hp
    induction x with
    | nil => rfl
    | cons f x ih =>
      rw [List.all_cons, Bool.and_eq_true] at hv
      rw [List.filterMap_cons_some (b := f) (show (parseF ∘ fun f => bs (lineT f)) f = some f from (lineT_ok hv.1).2.2), ih hv.2]
  unfold fieldsP
  rw [hp, hf, List.length_map]; simp
theorem fmtReq_clean {m t : ByteArray} {n : Int} (h : okReq m t n = true) : clean (bl (fmtReq m t n)) = true ∧ (fmtReq m t n).toList.isEmpty = false := by
  obtain ⟨h1, h2, h3⟩ := okReq_of h
  have e : bl (fmtReq m t n) = bl m ++ 32 :: (bl t ++ 32 :: (bl httpB ++ digs 10 n.toNat)) := by unfold fmtReq; rw [if_pos h, bl_bs]
  refine ⟨?_, by rw [toList_bl, e]; cases bl m <;> rfl⟩
  rw [e]
  refine clean_append (clean_token h1) (clean_cons (by decide) (by decide) (clean_append (clean_target h2) (clean_cons (by decide) (by decide) (clean_append (by decide +kernel) ?_))))
  rcases h3 with rfl | rfl
  · rw [show (0 : Int).toNat = 0 from rfl, digs0]; decide +kernel
  · rw [show (1 : Int).toNat = 1 from rfl, digs1]; decide +kernel
theorem hexD_clean : ∀ d, d < 10 → hexD d ≠ 13 ∧ hexD d ≠ 10 := by decide +kernel
theorem fmtSt_clean {st n : Int} {r : ByteArray} (h : okSt st r n = true) : clean (bl (fmtSt st r n)) = true ∧ (fmtSt st r n).toList.isEmpty = false := by
  obtain ⟨k, hk, k1, k2, v, hv, hb⟩ := fmtSt_bl h
  obtain ⟨-, -, hvis⟩ := okSt_of h
  refine ⟨?_, by rw [toList_bl, hb]; rfl⟩
  rw [hb]
  have q1 := hexD_clean (k / 100) (by omega)
  have q2 := hexD_clean (k / 10 % 10) (by omega)
  have q3 := hexD_clean (k % 10) (by omega)
  have qv : v ≠ 13 ∧ v ≠ 10 := by rcases hv with ⟨rfl, -⟩ | ⟨rfl, -⟩ <;> decide
  repeat (first | exact clean_vis hvis | refine clean_cons (by first | decide | exact q1.1 | exact q2.1 | exact q3.1 | exact qv.1) (by first | decide | exact q1.2 | exact q2.2 | exact q3.2 | exact qv.2) ?_)

theorem reqB_head {m t : ByteArray} {n : Int} {x : List Fld} (h : okReq m t n = true) (hv : x.all validF = true) :
    reqB (headB (fmtReq m t n) x) = if 64 < x.length then ((.empty, .empty, 0, []), 3) else if hostsBad x n then ((.empty, .empty, 0, []), 2) else ((m, t, n, x), 0) := by
  obtain ⟨h1, h2⟩ := fmtReq_clean h
  have hl := lines_head h2 h1 hv
  have hf := fieldsP_lines hv
  unfold reqB
  rw [hl]
  simp only
  rw [parse_fmtReq h]
  simp only
  rw [hf]
  by_cases h6 : 64 < x.length
  · rw [if_pos h6, if_pos h6]; rfl
  · rw [if_neg h6, if_neg h6]; rfl
theorem repB_head {st n : Int} {rs : ByteArray} {x : List Fld} (h : okSt st rs n = true) (hv : x.all validF = true) :
    repB (headB (fmtSt st rs n) x) = if 64 < x.length then ((0, .empty, 0, []), 3) else ((st, rs, n, x), 0) := by
  obtain ⟨h1, h2⟩ := fmtSt_clean h
  have hl := lines_head h2 h1 hv
  have hf := fieldsP_lines hv
  unfold repB
  rw [hl]
  simp only
  rw [parse_fmtSt h]
  simp only
  rw [hf]
  by_cases h6 : 64 < x.length
  · rw [if_pos h6, if_pos h6]; rfl
  · rw [if_neg h6, if_neg h6]; rfl
theorem linesS_nil : linesS [] = none := by
  have h : endP [] ≠ ([] : List UInt8).length := by decide +kernel
  unfold linesS; rw [linesP_end h]; rfl

/-! ### the end of a part -/
theorem endP_take {b : List UInt8} {n : Nat} (hn : n ≤ b.length) : (endP b = -1 → endP (b.take n) = -1) ∧ (∀ i : Nat, endP b = i → (n < i → endP (b.take n) = -1) ∧ (i ≤ n → endP (b.take n) = i)) := by
  have hl : (b.take n).length = n := by rw [List.length_take]; omega
  have tk : ∀ j, j ≤ n → ((b.take n).take j).drop (j - 4) = (b.take j).drop (j - 4) := by
    intro j hj; rw [List.take_take, Nat.min_eq_left hj]
  have low : ∀ j, 4 ≤ j → j ≤ n → ((b.take n).take j).drop (j - 4) = crlf2 → ∃ i : Nat, endP b = i ∧ i ≤ j := by
    intro j h4 hj he
    rw [tk j hj] at he
    rcases endP_cases b with ⟨h1, h2⟩ | ⟨i, h1, h2, h3⟩
    · exfalso
      rcases Lib.index_spec b crlf2 with ⟨-, hno⟩ | ⟨i', h5, -⟩
      · have := hno (j - 4) (by omega)
        rw [Lib.occAt_iff_take _ _ _ (by show j - 4 + 4 ≤ _; omega)] at this
        rw [List.drop_take, show j - (j - 4) = 4 from by omega] at he
        rw [show crlf2.length = 4 from rfl, he] at this
        simp at this
      · omega
    · refine ⟨i + 4, h1, ?_⟩
      obtain ⟨-, -, -, hno⟩ := endP_occ h1
      by_cases hji : j < i + 4
      · exact absurd he (hno j h4 hji)
      · omega
  refine ⟨fun h => endP_none fun j h4 hj e => ?_, fun i hi => ⟨fun hlt => endP_none fun j h4 hj e => ?_, fun hle => ?_⟩⟩
  · rw [hl] at hj
    obtain ⟨i, h1, -⟩ := low j h4 hj e
    omega
  · rw [hl] at hj
    obtain ⟨i', h1, h2⟩ := low j h4 hj e
    omega
  · obtain ⟨h4, h5, h6, h7⟩ := endP_occ hi
    refine endP_at h4 (by omega) (by rw [tk i hle]; exact h6) fun j hj hji => ?_
    rw [tk j (by omega)]
    exact h7 j hj hji
end Go.Own
