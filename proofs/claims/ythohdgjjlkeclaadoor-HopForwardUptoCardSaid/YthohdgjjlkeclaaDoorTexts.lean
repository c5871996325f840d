/- Plain laws on lists of texts: Split at a byte, lists of elements. No program stands here. -/
import Derived.Test.YthohdgjjlkeclaaDoorPure
import Derived.Lib.SplitLaws
namespace Go.Own
set_option linter.unusedVariables false

/-- l cut at each c -/
def splitBy (c : UInt8) : List UInt8 → List (List UInt8)
  | [] => [[]]
  | x :: r => if x = c then [] :: splitBy c r else (x :: (splitBy c r).headD []) :: (splitBy c r).tail
theorem splitBy_ne (c : UInt8) (l : List UInt8) : ∃ h t, splitBy c l = h :: t := by
  cases l with
  | nil => exact ⟨_, _, rfl⟩
  | cons x r => unfold splitBy; split <;> exact ⟨_, _, rfl⟩

theorem index_cons_eq (c : UInt8) (l : List UInt8) : Lib.index (c :: l) [c] = 0 := by
  unfold Lib.index; rw [if_pos (by simp [List.isPrefixOf])]
theorem index_cons_ne {b c : UInt8} (l : List UInt8) (h : b ≠ c) : Lib.index (b :: l) [c] = if Lib.index l [c] == -1 then -1 else Lib.index l [c] + 1 := by
  conv => lhs; unfold Lib.index
  rw [if_neg (by simp [List.isPrefixOf]; exact fun e => h e.symm)]

theorem splitK_one (c : UInt8) (s : List UInt8) : Lib.splitK [c] 0 (Lib.count s [c]) s = splitBy c s := by
  induction s with
  | nil => rfl
  | cons x r ih =>
    by_cases hx : x = c
    · subst hx
      rw [Lib.count_cons_eq, Nat.add_comm, Lib.splitK, index_cons_eq]
      simp only [splitBy, if_true]
      rw [if_neg (by decide)]
      simp [ih]
    · rw [Lib.count_cons_ne x c r hx]
      simp only [splitBy, if_neg hx]
      cases hc : Lib.count r [c] with
      | zero =>
        rw [hc] at ih
        simp only [Lib.splitK] at ih ⊢
        rw [← ih]; rfl
      | succ k =>
        rw [hc] at ih
        have hi : ¬ (Lib.index r [c] == -1) = true := by
          intro e
          have := Lib.count_miss (sub := [c]) (beq_iff_eq.1 e)
          omega
        obtain ⟨i, hi2⟩ : ∃ i : Nat, Lib.index r [c] = i := by
          rcases Lib.index_spec r [c] with ⟨h, -⟩ | ⟨i, h, -⟩
          · exact absurd (beq_iff_eq.2 h) hi
          · exact ⟨i, h⟩
        rw [Lib.splitK, if_neg hi, hi2] at ih
        rw [Lib.splitK, index_cons_ne r hx, if_neg hi, hi2]
        rw [if_neg (by rw [beq_iff_eq]; omega), ← ih]
        have e1 : ((i : Int) + 1).toNat = i + 1 := by omega
        rw [e1]
        simp

/-- strings.Split at one byte -/
def splitS (c : UInt8) (s : ByteArray) : List ByteArray := (splitBy c (bl s)).map bs
theorem splitB_one (c : UInt8) (s : ByteArray) : Lib.splitB ⟨#[c]⟩ 0 (Lib.countB s ⟨#[c]⟩) s = splitS c s := by
  have h := Lib.splitB_data ⟨#[c]⟩ 0 (Lib.countB s ⟨#[c]⟩) s
  have e : Lib.countB s ⟨#[c]⟩ = Lib.count s.data.toList [c] := rfl
  rw [e, splitK_one] at h
  rw [splitS, ← show (Lib.splitB ⟨#[c]⟩ 0 (Lib.countB s ⟨#[c]⟩) s).map (·.data.toList) = splitBy c (bl s) from h, List.map_map]
  have : ∀ l : List ByteArray, l = l.map (bs ∘ fun x => x.data.toList) := fun l => by
    induction l with
    | nil => rfl
    | cons x l ih => rw [List.map_cons, ← ih]; rfl
  exact this _

/-! ### splitBy, from the left, by places -/
theorem splitBy_hit (c : UInt8) : ∀ (k : Nat) (l : List UInt8) (h : k < l.length), hasB (l.take k) c = false → l[k] = c → splitBy c l = l.take k :: splitBy c (l.drop (k + 1))
  | 0, x :: r, _, _, he => by
    simp only [List.getElem_cons_zero] at he
    simp [splitBy, he]
  | k + 1, x :: r, h, hn, he => by
    simp only [List.getElem_cons_succ] at he
    simp only [hasB, List.take_succ_cons, List.any_cons, Bool.or_eq_false_iff] at hn
    have ih := splitBy_hit c k r (by simpa using h) hn.2 he
    have hx : x ≠ c := by simpa using hn.1
    rw [splitBy, if_neg hx, ih]
    simp
theorem splitBy_end (c : UInt8) (l : List UInt8) (hn : hasB l c = false) : splitBy c l = [l] := by
  induction l with
  | nil => rfl
  | cons x r ih =>
    simp only [hasB, List.any_cons, Bool.or_eq_false_iff] at hn
    have hx : x ≠ c := by simpa using hn.1
    rw [splitBy, if_neg hx, ih hn.2]; rfl

/-- what the reference's Split knows after k rounds: the pieces up to p are done, no c lies between p and k; or all is done -/
def SplitAt (c : UInt8) (l : List UInt8) (k p : Nat) (done : List (List UInt8)) : Prop :=
  (k ≤ l.length → p ≤ k ∧ done ++ splitBy c (l.drop p) = splitBy c l ∧ hasB ((l.take k).drop p) c = false) ∧ (k = l.length + 1 → done = splitBy c l)
theorem SplitAt.start {c : UInt8} {l : List UInt8} : SplitAt c l 0 0 [] := ⟨fun _ => ⟨Nat.le_refl _, by simp, rfl⟩, fun h => by omega⟩
theorem SplitAt.skip {c : UInt8} {l : List UInt8} {k p : Nat} {done : List (List UInt8)} (h : SplitAt c l k p done) (hk : k < l.length) (hx : l[k] ≠ c) : SplitAt c l (k + 1) p done := by
  obtain ⟨h1, h2, h3⟩ := h.1 (by omega)
  refine ⟨fun _ => ⟨by omega, h2, ?_⟩, fun e => by omega⟩
  rw [List.take_succ_eq_append_getElem hk, List.drop_append_of_le_length (by rw [List.length_take]; omega)]
  unfold hasB at h3 ⊢
  rw [List.any_append, h3]; simp [hx]
theorem drop_take_get {l : List UInt8} {k p : Nat} (hp : p ≤ k) (hk : k < l.length) : ∃ h : k - p < (l.drop p).length, (l.drop p)[k - p] = l[k] := by
  refine ⟨by rw [List.length_drop]; omega, ?_⟩
  rw [List.getElem_drop]
  congr 1
  omega
theorem SplitAt.hit {c : UInt8} {l : List UInt8} {k p : Nat} {done : List (List UInt8)} (h : SplitAt c l k p done) (hk : k < l.length) (hx : l[k] = c) : SplitAt c l (k + 1) (k + 1) (done ++ [(l.take k).drop p]) := by
  obtain ⟨h1, h2, h3⟩ := h.1 (by omega)
  obtain ⟨g1, g2⟩ := drop_take_get h1 hk
  have e : (l.drop p).take (k - p) = (l.take k).drop p := by rw [List.drop_take]
  have hh := splitBy_hit c (k - p) (l.drop p) g1 (by rw [e]; exact h3) (g2.trans hx)
  rw [e, List.drop_drop, show p + (k - p + 1) = k + 1 from by omega] at hh
  refine ⟨fun _ => ⟨Nat.le_refl _, ?_, ?_⟩, fun e => by omega⟩
  · rw [List.append_assoc, List.singleton_append, ← hh, h2]
  · rw [List.drop_of_length_le (by rw [List.length_take]; omega)]; rfl
theorem SplitAt.fin {c : UInt8} {l : List UInt8} {p : Nat} {done : List (List UInt8)} (h : SplitAt c l l.length p done) : SplitAt c l (l.length + 1) (l.length + 1) (done ++ [(l.take l.length).drop p]) := by
  obtain ⟨h1, h2, h3⟩ := h.1 (Nat.le_refl _)
  rw [List.take_length] at h3 ⊢
  refine ⟨fun h => by omega, fun _ => ?_⟩
  rw [← h2, splitBy_end c _ h3]

theorem SplitAt.fin' {c : UInt8} {l : List UInt8} {k p : Nat} {done : List (List UInt8)} (h : SplitAt c l k p done) (hk : k = l.length) : SplitAt c l (k + 1) (k + 1) (done ++ [(l.take k).drop p]) := by
  subst hk; exact h.fin

/-! ### List -/
def nonempty (l : List UInt8) : Bool := !l.isEmpty
def listOf (l : List UInt8) : List (List UInt8) := ((splitBy 44 l).map trim).filter nonempty
def elems (ls : List (List UInt8)) : List (List UInt8) := ls.flatMap listOf
def elemsS (ls : List ByteArray) : List ByteArray := (elems (ls.map bl)).map bs
/-- the elements of some parts -/
def partsS (ps : List ByteArray) : List ByteArray := ((ps.map fun p => trim (bl p)).filter nonempty).map bs
theorem partsS_append (a b : List ByteArray) : partsS (a ++ b) = partsS a ++ partsS b := by simp [partsS]
theorem elemsS_append (a b : List ByteArray) : elemsS (a ++ b) = elemsS a ++ elemsS b := by simp [elemsS, elems]
theorem elemsS_one (s : ByteArray) : elemsS [s] = partsS (splitS 44 s) := by
  simp only [elemsS, elems, partsS, splitS, List.map_cons, List.map_nil, List.flatMap_cons, List.flatMap_nil, List.append_nil, listOf, List.map_map]
  congr 2
theorem elemsS_succ (l : List ByteArray) (k : Nat) (h : k < l.length) : elemsS (l.take (k + 1)) = elemsS (l.take k) ++ partsS (splitS 44 l[k]) := by
  rw [List.take_succ_eq_append_getElem h, elemsS_append, elemsS_one]
theorem trimB_isEmpty (p : ByteArray) : (trimB p).toList.isEmpty = !nonempty (trim (bl p)) := by
  rw [toList_bl, trimB, bl_bs]; simp [nonempty]
theorem partsS_yes (ps : List ByteArray) (j : Nat) (h : j < ps.length) (hn : nonempty (trim (bl ps[j])) = true) : partsS (ps.take (j + 1)) = partsS (ps.take j) ++ [trimB ps[j]] := by
  rw [List.take_succ_eq_append_getElem h, partsS_append]
  congr 1
  simp [partsS, hn, trimB]
theorem partsS_no (ps : List ByteArray) (j : Nat) (h : j < ps.length) (hn : nonempty (trim (bl ps[j])) = false) : partsS (ps.take (j + 1)) = partsS (ps.take j) := by
  rw [List.take_succ_eq_append_getElem h, partsS_append]
  simp [partsS, hn]
theorem elemsS_part_le (l : List ByteArray) (k : Nat) (h : k < l.length) (j : Nat) : (elemsS (l.take k) ++ partsS ((splitS 44 l[k]).take j)).length ≤ (elemsS l).length := by
  have e1 : elemsS l = elemsS (l.take (k + 1)) ++ elemsS (l.drop (k + 1)) := by rw [← elemsS_append, List.take_append_drop]
  have e2 : partsS (splitS 44 l[k]) = partsS ((splitS 44 l[k]).take j) ++ partsS ((splitS 44 l[k]).drop j) := by rw [← partsS_append, List.take_append_drop]
  rw [e1, elemsS_succ l k h, e2]
  simp only [List.length_append]
  omega
theorem splitBy_length (c : UInt8) (l : List UInt8) : (splitBy c l).length ≤ l.length + 1 := by
  induction l with
  | nil => simp [splitBy]
  | cons x r ih =>
    unfold splitBy
    split
    · simp; exact ih
    · simp; omega
theorem splitS_length (c : UInt8) (s : ByteArray) : (splitS c s).length ≤ s.size + 1 := by
  rw [splitS, List.length_map, ← bl_length]; exact splitBy_length c _
theorem splitBy_len_mem (c : UInt8) (l : List UInt8) : ∀ p ∈ splitBy c l, p.length ≤ l.length := by
  induction l with
  | nil => intro p hp; simp [splitBy] at hp; simp [hp]
  | cons x r ih =>
    intro p hp
    obtain ⟨h, t, e⟩ := splitBy_ne c r
    unfold splitBy at hp
    split at hp
    · rcases List.mem_cons.1 hp with rfl | hp
      · simp
      · have := ih p hp; simp; omega
    · rw [e] at hp ih
      simp only [List.headD_cons, List.tail_cons] at hp
      rcases List.mem_cons.1 hp with rfl | hp
      · have := ih h (List.mem_cons_self ..); simp; omega
      · have := ih p (List.mem_cons_of_mem _ hp); simp; omega
theorem splitS_size (c : UInt8) (s : ByteArray) (p : ByteArray) (h : p ∈ splitS c s) : p.size ≤ s.size := by
  obtain ⟨q, hq, rfl⟩ := List.mem_map.1 h
  rw [bs_size, ← bl_length]; exact splitBy_len_mem c _ q hq

/-! ### more on elements -/
theorem splitBy_append (c : UInt8) (a b : List UInt8) : splitBy c (a ++ c :: b) = splitBy c a ++ splitBy c b := by
  induction a with
  | nil => simp [splitBy]
  | cons x r ih =>
    obtain ⟨h, t, e⟩ := splitBy_ne c r
    simp only [List.cons_append, splitBy, ih, e]
    split <;> simp
theorem listOf_join (a b : List UInt8) : listOf (a ++ 44 :: b) = listOf a ++ listOf b := by simp [listOf, splitBy_append]
theorem elemsS_join (a b : ByteArray) : elemsS [a ++ (⟨#[44]⟩ : ByteArray) ++ b] = elemsS [a, b] := by
  have e : bl (a ++ (⟨#[44]⟩ : ByteArray) ++ b) = bl a ++ 44 :: bl b := by rw [bl_append, bl_append]; simp [bl]
  simp only [elemsS, elems, List.map_cons, List.map_nil, List.flatMap_cons, List.flatMap_nil, List.append_nil, e, listOf_join]
theorem splitBy_none (c : UInt8) (l : List UInt8) : ∀ p ∈ splitBy c l, hasB p c = false := by
  induction l with
  | nil => intro p hp; simp [splitBy] at hp; subst hp; rfl
  | cons x r ih =>
    intro p hp
    obtain ⟨h, t, e⟩ := splitBy_ne c r
    unfold splitBy at hp
    split at hp
    · rcases List.mem_cons.1 hp with rfl | hp
      · rfl
      · exact ih p hp
    · rename_i hx
      rw [e] at hp ih
      simp only [List.headD_cons, List.tail_cons] at hp
      rcases List.mem_cons.1 hp with rfl | hp
      · have := ih h (List.mem_cons_self ..)
        simp only [hasB, List.any_cons] at this ⊢
        rw [this]; simp [hx]
      · exact ih p (List.mem_cons_of_mem _ hp)
theorem hasB_sub {l m : List UInt8} {c : UInt8} (h : hasB m c = false) (hs : ∀ x ∈ l, x ∈ m) : hasB l c = false := by
  unfold hasB at h ⊢
  rw [List.any_eq_false] at h ⊢
  exact fun x hx => h x (hs x hx)
theorem mem_trim {l : List UInt8} : ∀ x ∈ trim l, x ∈ l := by
  intro x hx
  unfold trim trimR trimL at hx
  rw [List.mem_reverse] at hx
  have h1 := (List.dropWhile_suffix blankB).subset hx
  rw [List.mem_reverse] at h1
  exact (List.dropWhile_suffix blankB).subset h1
/-- an element: trimmed, not empty, without a comma -/
def IsElem (l : List UInt8) : Prop := trim l = l ∧ l ≠ [] ∧ hasB l 44 = false
theorem mem_listOf {l p : List UInt8} (h : p ∈ listOf l) : IsElem p := by
  simp only [listOf, List.mem_filter, List.mem_map] at h
  obtain ⟨⟨q, hq, rfl⟩, hn⟩ := h
  refine ⟨trim_trim q, (by intro e; rw [e] at hn; cases hn), hasB_sub (splitBy_none 44 l q hq) mem_trim⟩
theorem listOf_elem {p : List UInt8} (h : IsElem p) : listOf p = [p] := by
  obtain ⟨h1, h2, h3⟩ := h
  rw [listOf, splitBy_end 44 p h3]
  simp [h1, nonempty, h2]
theorem elems_elems (ls : List (List UInt8)) : elems (elems ls) = elems ls := by
  have h : ∀ p ∈ elems ls, IsElem p := by
    intro p hp
    obtain ⟨q, -, hq⟩ := List.mem_flatMap.1 hp
    exact mem_listOf hq
  revert h
  generalize elems ls = m
  intro h
  induction m with
  | nil => rfl
  | cons x m ih =>
    have := ih fun p hp => h p (List.mem_cons_of_mem _ hp)
    unfold elems at this ⊢
    rw [List.flatMap_cons, this, listOf_elem (h x (List.mem_cons_self ..))]; rfl
theorem map_bl_bs (l : List (List UInt8)) : (l.map bs).map bl = l := by
  rw [List.map_map]
  induction l with
  | nil => rfl
  | cons x l ih => rw [List.map_cons, ih]; rfl
theorem elemsS_elemsS (l : List ByteArray) : elemsS (elemsS l) = elemsS l := by
  simp only [elemsS, map_bl_bs, elems_elems]
theorem mem_elemsS {l : List ByteArray} {p : ByteArray} (h : p ∈ elemsS l) : IsElem (bl p) ∧ trimB p = p ∧ p.toList.isEmpty = false := by
  obtain ⟨q, hq, rfl⟩ := List.mem_map.1 h
  obtain ⟨r, -, hr⟩ := List.mem_flatMap.1 hq
  have he := mem_listOf hr
  refine ⟨he, ?_, ?_⟩
  · rw [trimB, bl_bs, he.1]
  · rw [toList_bl, bl_bs]; simpa using he.2.1
theorem mem_elemsS_size {l : List ByteArray} {p : ByteArray} (h : p ∈ elemsS l) : ∃ s ∈ l, p.size ≤ s.size := by
  obtain ⟨q, hq, rfl⟩ := List.mem_map.1 h
  obtain ⟨r, hr, hqr⟩ := List.mem_flatMap.1 hq
  obtain ⟨s, hs, rfl⟩ := List.mem_map.1 hr
  refine ⟨s, hs, ?_⟩
  simp only [listOf, List.mem_filter, List.mem_map] at hqr
  obtain ⟨⟨u, hu, rfl⟩, -⟩ := hqr
  rw [bs_size]
  have h1 := splitBy_len_mem 44 (bl s) u hu
  have h2 := trimB_size (bs u)
  rw [trimB, bl_bs, bs_size, bs_size] at h2
  rw [bl_length] at h1
  omega
theorem elemsS_length (l : List ByteArray) : (elemsS l).length ≤ (l.map fun s => s.size + 1).sum := by
  induction l with
  | nil => simp [elemsS, elems]
  | cons s l ih =>
    have e : elemsS (s :: l) = elemsS [s] ++ elemsS l := elemsS_append [s] l
    rw [e, List.length_append, List.map_cons, List.sum_cons, elemsS_one]
    have h1 : (partsS (splitS 44 s)).length ≤ (splitS 44 s).length := by
      simp only [partsS, List.length_map]
      exact Nat.le_trans (List.length_filter_le _ _) (by simp)
    have h2 := splitS_length 44 s
    omega

end Go.Own
