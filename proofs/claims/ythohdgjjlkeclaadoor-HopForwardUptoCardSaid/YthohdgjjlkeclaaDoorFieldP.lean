/- Plain laws on header fields: how they read, Cut at one byte, Parse of a line. No program stands here. -/
import Derived.Test.YthohdgjjlkeclaaDoorTexts
namespace Go.Own
set_option linter.unusedVariables false

/-- a header field -/
structure Fld where
  name : ByteArray
  val : ByteArray
def Fld.cells (f : Fld) : List Value := [.string f.name, .string f.val]
def Fld.agg (f : Fld) : Value := .agg #[.string f.name, .string f.val]
def fieldsV (l : List Fld) : List Value := l.flatMap Fld.cells
theorem fieldsV_length (l : List Fld) : (fieldsV l).length = l.length * 2 := by
  induction l with
  | nil => rfl
  | cons f l ih => simp only [fieldsV, List.flatMap_cons, List.length_append, List.length_cons] at ih ⊢; rw [ih]; simp [Fld.cells]; omega
theorem fieldsV_append (l m : List Fld) : fieldsV (l ++ m) = fieldsV l ++ fieldsV m := List.flatMap_append
theorem fieldsV_get (l : List Fld) (k : Nat) (h : k < l.length) : (fieldsV l)[2 * k]? = some (.string l[k].name) ∧ (fieldsV l)[2 * k + 1]? = some (.string l[k].val) := by
  induction l generalizing k with
  | nil => cases h
  | cons f l ih =>
    cases k with
    | zero => exact ⟨rfl, rfl⟩
    | succ k =>
      have := ih k (by simpa using h)
      have e1 : 2 * (k + 1) = 2 * k + 1 + 1 := by omega
      have e2 : 2 * (k + 1) + 1 = 2 * k + 1 + 1 + 1 := by omega
      rw [e1]
      exact ⟨by simpa [fieldsV, Fld.cells] using this.1, by simpa [fieldsV, Fld.cells] using this.2⟩
theorem fieldsV_one (l : List Fld) : ∀ u ∈ fieldsV l, u.oneCell' = true := by
  intro u hu
  obtain ⟨f, -, hf⟩ := List.mem_flatMap.1 hu
  simp only [Fld.cells, List.mem_cons, List.not_mem_nil, or_false] at hf
  rcases hf with rfl | rfl <;> rfl
theorem fld_one (f : Fld) : ∀ u ∈ f.cells, u.oneCell' = true := by
  intro u hu
  simp only [Fld.cells, List.mem_cons, List.not_mem_nil, or_false] at hu
  rcases hu with rfl | rfl <;> rfl

/-- a []api.Field reads as l -/
def RdF (w : World) (v : Value) (l : List Fld) : Prop := Rd w v l.length (fieldsV l)
theorem RdF.below {w w' : World} {v : Value} {l : List Fld} (h : RdF w v l) (hb : Go.RowKit.Below w.heap.size w w') : RdF w' v l := Rd.below h hb
theorem RdF_nil (w : World) : RdF w (.slice none 0 0) [] :=
  ⟨none, 0, rfl, Nat.le_refl _, by simp [maxLen], fun _ => rfl, fun k hk => absurd hk (Nat.not_lt_zero _)⟩
theorem RdC.fld {w : World} {a : Option Addr} {l : List Fld} (h : RdC w a (fieldsV l)) (k : Nat) (hk : k < l.length) :
    ∃ b off, a = some ⟨b, off, none⟩ ∧ w.cell? ⟨b, off + k * 2, none⟩ = some (.string l[k].name) ∧ w.cell? ⟨b, off + k * 2 + 1, none⟩ = some (.string l[k].val) := by
  have hl := fieldsV_length l
  obtain ⟨b, off, ha, h1⟩ := h (2 * k) (by omega)
  obtain ⟨b2, off2, ha2, h2⟩ := h (2 * k + 1) (by omega)
  rw [ha] at ha2
  injection ha2 with e
  injection e with e1 e2
  subst e1 e2
  obtain ⟨g1, g2⟩ := fieldsV_get l k hk
  rw [List.getElem?_eq_getElem (by omega)] at g1 g2
  refine ⟨b, off, ha, ?_, ?_⟩
  · rw [Nat.mul_comm k 2, h1, g1]
  · rw [Nat.mul_comm k 2, Nat.add_assoc, h2, g2]

theorem RdC.fldAt {w : World} {b off : Nat} {l : List Fld} (h : RdC w (some ⟨b, off, none⟩) (fieldsV l)) (k : Nat) (hk : k < l.length) :
    w.cell? ⟨b, off + k * 2, none⟩ = some (.string l[k].name) ∧ w.cell? ⟨b, off + k * 2 + 1, none⟩ = some (.string l[k].val) := by
  obtain ⟨b2, off2, h1, h2, h3⟩ := h.fld k hk
  injection h1 with h1
  injection h1 with e1 e2
  subst e1 e2
  exact ⟨h2, h3⟩

def validF (f : Fld) : Bool := token (bl f.name) && value (bl f.val)

/-! ### Cut at one byte -/
theorem index_one_ge (c : UInt8) (l : List UInt8) : Lib.index l [c] = if hasB l c then ((l.takeWhile fun x => x != c).length : Int) else -1 := by
  induction l with
  | nil => rfl
  | cons x r ih =>
    by_cases hx : x = c
    · subst hx
      rw [index_cons_eq]; simp [hasB]
    · rw [index_cons_ne r hx, ih]
      have e : hasB (x :: r) c = hasB r c := by simp [hasB, hx]
      rw [e]
      have e2 : (x :: r).takeWhile (fun x => x != c) = x :: r.takeWhile (fun x => x != c) := by simp [hx]
      rw [e2]
      cases hasB r c
      · rfl
      · simp only [if_true]
        rw [if_neg (by rw [beq_iff_eq]; omega)]
        simp
/-- before and behind the first c -/
def before (c : UInt8) (l : List UInt8) : List UInt8 := l.takeWhile fun x => x != c
def behind (c : UInt8) (l : List UInt8) : List UInt8 := (l.dropWhile fun x => x != c).drop 1
theorem drop_takeWhile (p : UInt8 → Bool) (l : List UInt8) : l.drop (l.takeWhile p).length = l.dropWhile p := by
  induction l with
  | nil => rfl
  | cons x r ih => by_cases h : p x = true <;> simp [h, ih]
theorem take_takeWhile (p : UInt8 → Bool) (l : List UInt8) : l.take (l.takeWhile p).length = l.takeWhile p := by
  induction l with
  | nil => rfl
  | cons x r ih => by_cases h : p x = true <;> simp [h, ih]
theorem cut_one (c : UInt8) (l : List UInt8) : Lib.cut l [c] = if hasB l c then (before c l, behind c l, true) else (l, [], false) := by
  unfold Lib.cut
  rw [index_one_ge]
  cases h : hasB l c
  · simp
  · simp only [if_true]
    rw [if_pos (by omega)]
    have e : (((l.takeWhile fun x => x != c).length : Int)).toNat = (l.takeWhile fun x => x != c).length := Int.toNat_natCast _
    simp only [e, List.length_singleton]
    refine Prod.ext ?_ (Prod.ext ?_ rfl)
    · exact take_takeWhile _ _
    · show l.drop ((l.takeWhile fun x => x != c).length + 1) = _
      rw [← List.drop_drop, drop_takeWhile]; rfl
theorem before_at (c : UInt8) (l : List UInt8) (k : Nat) (h : k < l.length) (hn : hasB (l.take k) c = false) (he : l[k] = c) : hasB l c = true ∧ before c l = l.take k ∧ behind c l = l.drop (k + 1) := by
  refine ⟨hasB_at l k h he, ?_⟩
  induction l generalizing k with
  | nil => cases h
  | cons x r ih =>
    cases k with
    | zero => simp only [List.getElem_cons_zero] at he; simp [before, behind, he]
    | succ k =>
      simp only [hasB, List.take_succ_cons, List.any_cons, Bool.or_eq_false_iff] at hn
      have hx : x ≠ c := by simpa using hn.1
      have := ih k (by simpa using h) hn.2 (by simpa using he)
      simp only [before, behind] at this ⊢
      simp [hx, this]

/-! ### Parse of a line -/
def parseF (s : ByteArray) : Option Fld :=
  if hasB (bl s) 58 then
    let f : Fld := ⟨bs (before 58 (bl s)), trimB (bs (behind 58 (bl s)))⟩
    if validF f then some f else none
  else none
/-- what Parse returns -/
def parseV (s : ByteArray) : Value := match parseF s with
  | some f => .tuple #[f.agg, .int .i64 0]
  | none => .tuple #[.agg #[.string .empty, .string .empty], .int .i64 2]
theorem parseF_valid {s : ByteArray} {f : Fld} (h : parseF s = some f) : validF f = true := by
  unfold parseF at h
  split at h
  · simp only at h
    split at h
    · rename_i hv; injection h with h; rw [← h]; exact hv
    · cases h
  · cases h
theorem parseV_none {s : ByteArray} (h : hasB (bl s) 58 = false) : parseV s = .tuple #[.agg #[.string .empty, .string .empty], .int .i64 2] := by
  unfold parseV parseF; rw [h]; rfl
theorem parseV_some {s : ByteArray} (h : hasB (bl s) 58 = true) : parseV s = if validF ⟨bs (before 58 (bl s)), trimB (bs (behind 58 (bl s)))⟩ = true then .tuple #[.agg #[.string (bs (before 58 (bl s))), .string (trimB (bs (behind 58 (bl s))))], .int .i64 0] else .tuple #[.agg #[.string .empty, .string .empty], .int .i64 2] := by
  by_cases hv : validF ⟨bs (before 58 (bl s)), trimB (bs (behind 58 (bl s)))⟩ = true
  · have e : parseF s = some ⟨bs (before 58 (bl s)), trimB (bs (behind 58 (bl s)))⟩ := by unfold parseF; rw [if_pos h]; simp only; rw [if_pos hv]
    rw [if_pos hv]; unfold parseV; rw [e]; rfl
  · have e : parseF s = none := by unfold parseF; rw [if_pos h]; simp only; rw [if_neg hv]
    rw [if_neg hv]; unfold parseV; rw [e]
theorem parseV_at {s : ByteArray} {k : Nat} (h : hasB (bl s) 58 = true ∧ before 58 (bl s) = (bl s).take k ∧ behind 58 (bl s) = (bl s).drop (k + 1)) :
    parseV s = if validF ⟨s.extract 0 k, trimB (s.extract (k + 1) s.size)⟩ = true then .tuple #[.agg #[.string (s.extract 0 k), .string (trimB (s.extract (k + 1) s.size))], .int .i64 0] else .tuple #[.agg #[.string .empty, .string .empty], .int .i64 2] := by
  obtain ⟨h1, h2, h3⟩ := h
  rw [parseV_some h1]
  have e1 : bs (before 58 (bl s)) = s.extract 0 k := bl_inj (by rw [bl_bs, h2, bl_extract, List.drop_zero])
  have e2 : bs (behind 58 (bl s)) = s.extract (k + 1) s.size := bl_inj (by rw [bl_bs, h3, bl_extract, List.take_of_length_le (by rw [bl_length]; exact Nat.le_refl _)])
  rw [e1, e2]
theorem before_len (c : UInt8) (l : List UInt8) : (before c l).length ≤ l.length := (List.takeWhile_prefix _).length_le
theorem behind_len (c : UInt8) (l : List UInt8) : (behind c l).length ≤ l.length := by
  unfold behind
  rw [List.length_drop]
  have := (List.dropWhile_suffix (fun x => x != c) (l := l)).length_le
  omega

end Go.Own
