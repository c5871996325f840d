/- The plain functions that the program's layers compute: character classes, trimming, lists. No program stands here. Plain laws on lists of texts: Split at a byte, lists of elements. No program stands here. Plain laws on header fields: how they read, Cut at one byte, Parse of a line. No program stands here. Plain laws on the lines of fields: Format, and that the line of a valid field is parsed to the field. No program stands here. Plain laws on cookies: the pairs of a Cookie value, the first pair with a name, IDs. No program stands here. Plain laws on numerals: digits in a base, hexadecimal words of a fixed width. No program stands here. Plain laws: a cookie is found again. No program stands here. Plain laws on reading numbers. No program stands here. Plain laws on start lines: targets, versions, the bytes of a rune. No program stands here. Plain laws on start lines that were formatted, and are parsed again. No program stands here. -/
import Derived.Test.YtfmokccoilgpmaaGreatDoorLib
import Derived.Lib.Bytealg
import Derived.Lib.IndexBytes
import Derived.Lib.SplitLaws
import Derived.Lib.ItoaNum
import Derived.Lib.Repeat
import Derived.Laws.RangeAny
/-! The plain functions that the program's layers compute: character classes, trimming, lists. No program stands here. -/
namespace Go.Own

/-- the bytes of a string, and back -/
def bl (s : ByteArray) : List UInt8 := s.data.toList
def bs (l : List UInt8) : ByteArray := ⟨l.toArray⟩
theorem bl_bs (l : List UInt8) : bl (bs l) = l := rfl
theorem bs_bl (s : ByteArray) : bs (bl s) = s := by cases s; simp [bs, bl]
theorem bl_length (s : ByteArray) : (bl s).length = s.size := (size_toList s).symm
theorem bs_size (l : List UInt8) : (bs l).size = l.length := by rw [← bl_length]; rfl
theorem bl_inj {s t : ByteArray} (h : bl s = bl t) : s = t := by rw [← bs_bl s, h, bs_bl]
theorem bl_get (s : ByteArray) (k : Nat) (h : k < s.size) : s[k] = (bl s)[k]'(by rw [bl_length]; exact h) := rfl
theorem bs_eq (s : ByteArray) : (⟨s.data.toList.toArray⟩ : ByteArray) = s := bs_bl s

/-- equality of strings, as the walk writes it -/
def seq (a b : ByteArray) : Bool := a.toList == b.toList
theorem toList_bl (a : ByteArray) : a.toList = bl a := ByteArray.toList_eq a
theorem seq_iff (a b : ByteArray) : seq a b = true ↔ a = b := by
  unfold seq; rw [beq_iff_eq, toList_bl, toList_bl]; exact ⟨bl_inj, fun h => by rw [h]⟩
theorem seq_self (a : ByteArray) : seq a a = true := (seq_iff a a).2 rfl
theorem seq_ne {a b : ByteArray} (h : a ≠ b) : seq a b = false := by
  cases e : seq a b with
  | false => rfl
  | true => exact absurd ((seq_iff a b).1 e) h
theorem seq_eq (a b : ByteArray) : seq a b = (bl a == bl b) := by unfold seq; rw [toList_bl, toList_bl]

theorem size1 (c : UInt8) : (⟨#[c]⟩ : ByteArray).size = 1 := rfl
theorem size1' (c : UInt8) : (⟨[c].toArray⟩ : ByteArray).size = 1 := rfl

/-! ### classes of bytes -/
def low1 (c : UInt8) : UInt8 := if 65 ≤ c.toNat ∧ c.toNat ≤ 90 then c + 32 else c
def lower (l : List UInt8) : List UInt8 := l.map low1
def lowerB (s : ByteArray) : ByteArray := bs (lower (bl s))
def foldB (a b : ByteArray) : Bool := seq (lowerB a) (lowerB b)
def digitB (c : UInt8) : Bool := decide (48 ≤ c.toNat) && decide (c.toNat ≤ 57)
def letterB (c : UInt8) : Bool := decide (65 ≤ c.toNat) && decide (c.toNat ≤ 90) || decide (97 ≤ c.toNat) && decide (c.toNat ≤ 122) || digitB c
def specials : List UInt8 := [33, 35, 36, 37, 38, 39, 42, 43, 45, 46, 94, 95, 96, 124, 126]
def specialB (c : UInt8) : Bool := specials.any fun x => x == c
def tchar (c : UInt8) : Bool := letterB c || specialB c
def token (l : List UInt8) : Bool := l.all tchar && !l.isEmpty
def blankB (c : UInt8) : Bool := c.toNat == 32 || c.toNat == 9
def visB (c : UInt8) : Bool := !(decide (c.toNat < 32) && !(c.toNat == 9) || c.toNat == 127)
def trimL (l : List UInt8) : List UInt8 := l.dropWhile blankB
def trimR (l : List UInt8) : List UInt8 := (l.reverse.dropWhile blankB).reverse
def trim (l : List UInt8) : List UInt8 := trimR (trimL l)
def trimB (s : ByteArray) : ByteArray := bs (trim (bl s))
def value (l : List UInt8) : Bool := l.all visB && (trim l == l)

theorem lower_length (l : List UInt8) : (lower l).length = l.length := List.length_map ..
theorem lowerB_size (s : ByteArray) : (lowerB s).size = s.size := by rw [lowerB, bs_size, lower_length, bl_length]
theorem low1_up {c : UInt8} (h : 65 ≤ c.toNat ∧ c.toNat ≤ 90) : ((low1 c).toNat : Int) = (c.toNat : Int) + 32 := by
  unfold low1; rw [if_pos h, UInt8.toNat_add]; simp; omega
theorem low1_no {c : UInt8} (h : ¬ (65 ≤ c.toNat ∧ c.toNat ≤ 90)) : low1 c = c := if_neg h
theorem low1_low1 (c : UInt8) : low1 (low1 c) = low1 c := by
  unfold low1
  by_cases h : 65 ≤ c.toNat ∧ c.toNat ≤ 90
  · rw [if_pos h]
    have e : (c + 32).toNat = c.toNat + 32 := by rw [UInt8.toNat_add]; simp; omega
    rw [if_neg (by omega)]
  · rw [if_neg h, if_neg h]
theorem lower_lower (l : List UInt8) : lower (lower l) = lower l := by
  unfold lower; rw [List.map_map]; exact List.map_congr_left fun c _ => low1_low1 c
theorem lowerB_lowerB (s : ByteArray) : lowerB (lowerB s) = lowerB s := by unfold lowerB; rw [bl_bs, lower_lower]

/-! ### Lower in place: after k rounds the first k bytes are lowered -/
theorem lower_cell {w : World} {g : Nat} {l : List UInt8} {k : Nat} (h : MutC w g (bytesV (lower (l.take k) ++ l.drop k))) (hk : k < l.length) :
    w.cell? ⟨g, k, none⟩ = some (.int .u8 (l[k].toNat : Int)) ∧ w.frozen? ⟨g, k, none⟩ = false := by
  have hl : (lower (l.take k)).length = k := by rw [lower_length, List.length_take]; omega
  have := h k (by rw [bytesV_length, List.length_append, hl, List.length_drop]; omega)
  refine ⟨?_, this.2⟩
  rw [this.1]
  simp [bytesV, byteV, hl]
theorem lower_keep {l : List UInt8} {k : Nat} (hk : k < l.length) (h : low1 l[k] = l[k]) : lower (l.take (k + 1)) ++ l.drop (k + 1) = lower (l.take k) ++ l.drop k := by
  have e : l.drop k = l[k] :: l.drop (k + 1) := List.drop_eq_getElem_cons hk
  rw [List.take_succ_eq_append_getElem hk, e, lower, lower, List.map_append, List.append_assoc, List.map_cons, List.map_nil, h]; rfl
theorem lower_change {l : List UInt8} {k : Nat} (hk : k < l.length) : lower (l.take (k + 1)) ++ l.drop (k + 1) = (lower (l.take k) ++ l.drop k).set k (low1 l[k]) := by
  have hl : (lower (l.take k)).length = k := by rw [lower_length, List.length_take]; omega
  have e : l.drop k = l[k] :: l.drop (k + 1) := List.drop_eq_getElem_cons hk
  rw [List.take_succ_eq_append_getElem hk, e, List.set_append, if_neg (by omega), hl, Nat.sub_self, List.set_cons_zero, lower, lower, List.map_append, List.append_assoc]; rfl
theorem lower_next {w : World} {g : Nat} {l : List UInt8} {k : Nat} (h : MutC w g (bytesV (lower (l.take k) ++ l.drop k))) (hk : k < l.length) :
    (low1 l[k] = l[k] → MutC w g (bytesV (lower (l.take (k + 1)) ++ l.drop (k + 1)))) ∧ MutC (w.setCell ⟨g, k, none⟩ (.int .u8 ((low1 l[k]).toNat : Int))) g (bytesV (lower (l.take (k + 1)) ++ l.drop (k + 1))) := by
  have hl : (lower (l.take k)).length = k := by rw [lower_length, List.length_take]; omega
  refine ⟨fun he => by rw [lower_keep hk he]; exact h, ?_⟩
  have := h.set k (by rw [bytesV_length, List.length_append, hl, List.length_drop]; omega) (.int .u8 ((low1 l[k]).toNat : Int))
  rw [lower_change hk]
  rw [bytesV, List.map_set]
  exact this

/-! ### one step of a search from the left -/
theorem all_take_succ {p : UInt8 → Bool} (l : List UInt8) (k : Nat) (h : k < l.length) (ht : (l.take k).all p = true) (hp : p l[k] = true) : (l.take (k + 1)).all p = true := by
  rw [List.take_succ_eq_append_getElem h, List.all_append, ht]; simp [hp]
theorem all_fails {p : UInt8 → Bool} (l : List UInt8) (k : Nat) (h : k < l.length) (hp : p l[k] = false) : l.all p = false := by
  rw [List.all_eq_false]; exact ⟨l[k], List.getElem_mem h, by simp [hp]⟩
theorem all_full {p : UInt8 → Bool} (l : List UInt8) (k : Nat) (h : l.length ≤ k) (ht : (l.take k).all p = true) : l.all p = true := by
  rwa [List.take_of_length_le h] at ht

/-- c is among l -/
def hasB (l : List UInt8) (c : UInt8) : Bool := l.any fun x => x == c
theorem hasB_at (l : List UInt8) (k : Nat) (h : k < l.length) {c : UInt8} (he : l[k] = c) : hasB l c = true := by
  unfold hasB; rw [List.any_eq_true]; exact ⟨l[k], List.getElem_mem h, by simp [he]⟩
theorem hasB_succ (l : List UInt8) (k : Nat) (h : k < l.length) {c : UInt8} (ht : hasB (l.take k) c = false) (he : l[k] ≠ c) : hasB (l.take (k + 1)) c = false := by
  unfold hasB at ht ⊢
  rw [List.take_succ_eq_append_getElem h, List.any_append, ht]; simp [he]
theorem hasB_full (l : List UInt8) (k : Nat) (h : l.length ≤ k) {c : UInt8} (ht : hasB (l.take k) c = false) : hasB l c = false := by rwa [List.take_of_length_le h] at ht
/-- a byte of a string, under one name -/
theorem byte_split (s : ByteArray) (k : Nat) (h : k < s.size) : ∃ x, (bl s)[k]'(by rw [bl_length]; exact h) = x ∧ s[k]'h = x := ⟨_, rfl, rfl⟩
theorem indexByte_miss {l : List UInt8} {c : UInt8} (h : (l.any fun x => x == c) = false) : Lib.indexByte l c = -1 := by
  induction l with
  | nil => rfl
  | cons b l ih =>
    simp only [List.any_cons, Bool.or_eq_false_iff] at h
    unfold Lib.indexByte
    rw [if_neg (by simp [h.1]), ih h.2]; rfl
theorem indexByte_hit {l : List UInt8} {c : UInt8} (h : (l.any fun x => x == c) = true) : 0 ≤ Lib.indexByte l c := by
  induction l with
  | nil => cases h
  | cons b l ih =>
    unfold Lib.indexByte
    split
    · decide
    · rename_i hb
      have h' : (l.any fun x => x == c) = true := by
        simp only [List.any_cons, Bool.or_eq_true] at h
        rcases h with h | h
        · exact absurd h hb
        · exact h
      have := ih h'
      split
      · rename_i e; rw [beq_iff_eq] at e; omega
      · omega
theorem token_no {l : List UInt8} (h : l.all tchar = false) : token l = false := by unfold token; rw [h]; rfl
theorem token_end {l : List UInt8} (h : l.all tchar = true) : token l = !l.isEmpty := by unfold token; rw [h]; rfl
/-! ### Trim, byte by byte -/
def strSize : Value → Nat | .string t => t.size | _ => 0
theorem bl_extract (t : ByteArray) (a b : Nat) : bl (t.extract a b) = ((bl t).take b).drop a := by
  unfold bl; rw [Lib.extract_data, List.drop_take]
theorem size_zero_nil {t : ByteArray} (h : t.size = 0) : bl t = [] := List.eq_nil_of_length_eq_zero (by rw [bl_length]; exact h)
theorem trimL_blank (l : List UInt8) (h : 0 < l.length) (hb : blankB l[0] = true) : trimL (l.drop 1) = trimL l := by
  cases l with
  | nil => cases h
  | cons c l => simp only [List.getElem_cons_zero] at hb; simp [trimL, hb]
theorem trimL_stop (l : List UInt8) (h : 0 < l.length) (hb : blankB l[0] = false) : trimL l = l := by
  cases l with
  | nil => cases h
  | cons c l => simp only [List.getElem_cons_zero] at hb; simp [trimL, hb]
theorem last_split {l : List UInt8} {m : Nat} (h : l.length = m + 1) : ∃ r c, l = r ++ [c] ∧ l.take m = r ∧ l[m] = c := by
  refine ⟨l.take m, l[m], ?_, rfl, rfl⟩
  rw [← List.take_succ_eq_append_getElem (by omega), List.take_of_length_le (by omega)]
theorem trimR_blank (l : List UInt8) (m : Nat) (h : l.length = m + 1) (hb : blankB l[m] = true) : trimR (l.take m) = trimR l := by
  obtain ⟨r, c, h1, h2, h3⟩ := last_split h
  rw [h2, h1]; rw [h3] at hb
  simp [trimR, List.reverse_append, hb]
theorem trimR_stop (l : List UInt8) (m : Nat) (h : l.length = m + 1) (hb : blankB l[m] = false) : trimR l = l := by
  obtain ⟨r, c, h1, h2, h3⟩ := last_split h
  rw [h1]; rw [h3] at hb
  simp [trimR, List.reverse_append, hb]
theorem trimL_step (t : ByteArray) (h : 0 < t.size) (hb : blankB ((bl t)[0]'(by rw [bl_length]; exact h)) = true) : trimL (bl (t.extract 1 t.size)) = trimL (bl t) := by
  rw [bl_extract, List.take_of_length_le (by rw [bl_length]; exact Nat.le_refl _)]
  exact trimL_blank _ _ hb
theorem trim_mid (t s : ByteArray) (h : t.size = 0 ∨ ∃ h : 0 < t.size, blankB ((bl t)[0]'(by rw [bl_length]; exact h)) = false) (ht : trimL (bl t) = trimL (bl s)) : trimR (bl t) = trim (bl s) := by
  have e : trimL (bl t) = bl t := by
    rcases h with h | ⟨h, hb⟩
    · rw [size_zero_nil h]; rfl
    · exact trimL_stop _ _ hb
  rw [trim, ← ht, e]
theorem trimR_step (u : ByteArray) (m : Nat) (h : u.size = m + 1) (hb : blankB ((bl u)[m]'(by rw [bl_length, h]; omega)) = true) : trimR (bl (u.extract 0 m)) = trimR (bl u) := by
  rw [bl_extract, List.drop_zero]
  exact trimR_blank _ _ (by rw [bl_length, h]) hb
theorem trim_done (u s : ByteArray) (h : u.size = 0 ∨ ∃ m, ∃ h : u.size = m + 1, blankB ((bl u)[m]'(by rw [bl_length, h]; omega)) = false) (ht : trimR (bl u) = trim (bl s)) : u = trimB s := by
  have e : trimR (bl u) = bl u := by
    rcases h with h | ⟨m, h, hb⟩
    · rw [size_zero_nil h]; rfl
    · exact trimR_stop _ m (by rw [bl_length, h]) hb
  rw [trimB, ← ht, e, bs_bl]
theorem value_no {l : List UInt8} (h : l.all visB = false) : false = value l := by unfold value; rw [h]; rfl
theorem value_end {s : ByteArray} (h : (bl s).all visB = true) : ((trimB s).toList == s.toList) = value (bl s) := by
  rw [value, h, toList_bl, toList_bl, trimB, bl_bs]; rfl
theorem dropWhile_dropWhile (p : UInt8 → Bool) (l : List UInt8) : (l.dropWhile p).dropWhile p = l.dropWhile p := by
  induction l with
  | nil => rfl
  | cons x r ih =>
    by_cases h : p x = true
    · simp [h, ih]
    · simp [h]
theorem trimR_trimR (l : List UInt8) : trimR (trimR l) = trimR l := by simp [trimR, dropWhile_dropWhile]
theorem trimL_snoc_blank (l : List UInt8) (c : UInt8) (h : blankB c = true) : trimR (trimL (l ++ [c])) = trimR (trimL l) := by
  induction l with
  | nil => simp [trimL, h]
  | cons x r ih =>
    by_cases hx : blankB x = true
    · simpa [trimL, List.dropWhile_cons, hx] using ih
    · simp only [trimL, List.cons_append, List.dropWhile_cons, hx]
      simp [trimR, h]
theorem trim_snoc (l : List UInt8) (c : UInt8) (h : blankB c = true) : trim (l ++ [c]) = trim l := trimL_snoc_blank l c h
theorem trim_cons (l : List UInt8) (c : UInt8) (h : blankB c = true) : trim (c :: l) = trim l := by simp [trim, trimL, h]
/-- what is trimmed begins with no blank -/
theorem trimL_trimR (l : List UInt8) (h : trimL l = l) : trimL (trimR l) = trimR l := by
  cases l with
  | nil => rfl
  | cons x r =>
    by_cases hx : blankB x = true
    · exfalso
      have h2 : (trimL (x :: r)).length ≤ r.length := by
        simp only [trimL, List.dropWhile_cons, hx, if_true]
        exact (List.dropWhile_suffix _).length_le
      rw [h] at h2; simp at h2; omega
    · have e : ∃ t, trimR (x :: r) = x :: t := by
        unfold trimR
        rw [List.reverse_cons]
        generalize r.reverse = q
        induction q with
        | nil => exact ⟨[], by simp [hx]⟩
        | cons y q ih =>
          rw [List.cons_append, List.dropWhile_cons]
          split
          · exact ih
          · exact ⟨(y :: q).reverse, by simp⟩
      obtain ⟨t, e⟩ := e
      rw [e]; simp [trimL, hx]
theorem trim_trim (l : List UInt8) : trim (trim l) = trim l := by
  unfold trim
  rw [trimL_trimR _ (by unfold trimL; exact dropWhile_dropWhile _ _), trimR_trimR]
theorem trimB_trimB (s : ByteArray) : trimB (trimB s) = trimB s := by unfold trimB; rw [bl_bs, trim_trim]
theorem bl_append (a b : ByteArray) : bl (a ++ b) = bl a ++ bl b := by simp [bl]
theorem trimB_size (s : ByteArray) : (trimB s).size ≤ s.size := by
  rw [trimB, bs_size, ← bl_length]
  unfold trim trimR trimL
  rw [List.length_reverse]
  refine Nat.le_trans (List.dropWhile_suffix _).length_le ?_
  rw [List.length_reverse]
  exact (List.dropWhile_suffix _).length_le
theorem byte_ne {a b : UInt8} (h : a ≠ b) : ((a.toNat : Int) == (b.toNat : Int)) = false := by
  rw [beq_eq_false_iff_ne]
  exact fun e => h (UInt8.toNat_inj.1 (by omega))

end Go.Own

/-! Plain laws on lists of texts: Split at a byte, lists of elements. No program stands here. -/
namespace Go.Own
set_option linter.unusedVariables false

/-- l cut at each c -/
def splitBy (c : UInt8) : List UInt8 → List (List UInt8)
  | [] => [[]]
  | x :: r => if x = c then [] :: splitBy c r else (x :: (splitBy c r).headD []) :: (splitBy c r).tail
theorem splitBy_ne (c : UInt8) (l : List UInt8) : ∃ h t, splitBy c l = h :: t := by
  cases l with
  | nil => exact ⟨_, _, rfl⟩
  | cons x r => unfold splitBy; split <;> exact ⟨_, _, rfl⟩

theorem index_cons_eq (c : UInt8) (l : List UInt8) : Lib.index (c :: l) [c] = 0 := by
  unfold Lib.index; rw [if_pos (by simp [List.isPrefixOf])]
theorem index_cons_ne {b c : UInt8} (l : List UInt8) (h : b ≠ c) : Lib.index (b :: l) [c] = if Lib.index l [c] == -1 then -1 else Lib.index l [c] + 1 := by
  conv => lhs; unfold Lib.index
  rw [if_neg (by simp [List.isPrefixOf]; exact fun e => h e.symm)]

theorem splitK_one (c : UInt8) (s : List UInt8) : Lib.splitK [c] 0 (Lib.count s [c]) s = splitBy c s := by
  induction s with
  | nil => rfl
  | cons x r ih =>
    by_cases hx : x = c
    · subst hx
      rw [Lib.count_cons_eq, Nat.add_comm, Lib.splitK, index_cons_eq]
      simp only [splitBy, if_true]
      rw [if_neg (by decide)]
      simp [ih]
    · rw [Lib.count_cons_ne x c r hx]
      simp only [splitBy, if_neg hx]
      cases hc : Lib.count r [c] with
      | zero =>
        rw [hc] at ih
        simp only [Lib.splitK] at ih ⊢
        rw [← ih]; rfl
      | succ k =>
        rw [hc] at ih
        have hi : ¬ (Lib.index r [c] == -1) = true := by
          intro e
          have := Lib.count_miss (sub := [c]) (beq_iff_eq.1 e)
          omega
        obtain ⟨i, hi2⟩ : ∃ i : Nat, Lib.index r [c] = i := by
          rcases Lib.index_spec r [c] with ⟨h, -⟩ | ⟨i, h, -⟩
          · exact absurd (beq_iff_eq.2 h) hi
          · exact ⟨i, h⟩
        rw [Lib.splitK, if_neg hi, hi2] at ih
        rw [Lib.splitK, index_cons_ne r hx, if_neg hi, hi2]
        rw [if_neg (by rw [beq_iff_eq]; omega), ← ih]
        have e1 : ((i : Int) + 1).toNat = i + 1 := by omega
        rw [e1]
        simp

/-- strings.Split at one byte -/
def splitS (c : UInt8) (s : ByteArray) : List ByteArray := (splitBy c (bl s)).map bs
theorem splitB_one (c : UInt8) (s : ByteArray) : Lib.splitB ⟨#[c]⟩ 0 (Lib.countB s ⟨#[c]⟩) s = splitS c s := by
  have h := Lib.splitB_data ⟨#[c]⟩ 0 (Lib.countB s ⟨#[c]⟩) s
  have e : Lib.countB s ⟨#[c]⟩ = Lib.count s.data.toList [c] := rfl
  rw [e, splitK_one] at h
  rw [splitS, ← show (Lib.splitB ⟨#[c]⟩ 0 (Lib.countB s ⟨#[c]⟩) s).map (·.data.toList) = splitBy c (bl s) from h, List.map_map]
  have : ∀ l : List ByteArray, l = l.map (bs ∘ fun x => x.data.toList) := fun l => by
    induction l with
    | nil => rfl
    | cons x l ih => rw [List.map_cons, ← ih]; rfl
  exact this _

/-! ### splitBy, from the left, by places -/
theorem splitBy_hit (c : UInt8) : ∀ (k : Nat) (l : List UInt8) (h : k < l.length), hasB (l.take k) c = false → l[k] = c → splitBy c l = l.take k :: splitBy c (l.drop (k + 1))
  | 0, x :: r, _, _, he => by
    simp only [List.getElem_cons_zero] at he
    simp [splitBy, he]
  | k + 1, x :: r, h, hn, he => by
    simp only [List.getElem_cons_succ] at he
    simp only [hasB, List.take_succ_cons, List.any_cons, Bool.or_eq_false_iff] at hn
    have ih := splitBy_hit c k r (by simpa using h) hn.2 he
    have hx : x ≠ c := by simpa using hn.1
    rw [splitBy, if_neg hx, ih]
    simp
theorem splitBy_end (c : UInt8) (l : List UInt8) (hn : hasB l c = false) : splitBy c l = [l] := by
  induction l with
  | nil => rfl
  | cons x r ih =>
    simp only [hasB, List.any_cons, Bool.or_eq_false_iff] at hn
    have hx : x ≠ c := by simpa using hn.1
    rw [splitBy, if_neg hx, ih hn.2]; rfl

/-- what the reference's Split knows after k rounds: the pieces up to p are done, no c lies between p and k; or all is done -/
def SplitAt (c : UInt8) (l : List UInt8) (k p : Nat) (done : List (List UInt8)) : Prop :=
  (k ≤ l.length → p ≤ k ∧ done ++ splitBy c (l.drop p) = splitBy c l ∧ hasB ((l.take k).drop p) c = false) ∧ (k = l.length + 1 → done = splitBy c l)
theorem SplitAt.start {c : UInt8} {l : List UInt8} : SplitAt c l 0 0 [] := ⟨fun _ => ⟨Nat.le_refl _, by simp, rfl⟩, fun h => by omega⟩
theorem SplitAt.skip {c : UInt8} {l : List UInt8} {k p : Nat} {done : List (List UInt8)} (h : SplitAt c l k p done) (hk : k < l.length) (hx : l[k] ≠ c) : SplitAt c l (k + 1) p done := by
  obtain ⟨h1, h2, h3⟩ := h.1 (by omega)
  refine ⟨fun _ => ⟨by omega, h2, ?_⟩, fun e => by omega⟩
  rw [List.take_succ_eq_append_getElem hk, List.drop_append_of_le_length (by rw [List.length_take]; omega)]
  unfold hasB at h3 ⊢
  rw [List.any_append, h3]; simp [hx]
theorem drop_take_get {l : List UInt8} {k p : Nat} (hp : p ≤ k) (hk : k < l.length) : ∃ h : k - p < (l.drop p).length, (l.drop p)[k - p] = l[k] := by
  refine ⟨by rw [List.length_drop]; omega, ?_⟩
  rw [List.getElem_drop]
  congr 1
  omega
theorem SplitAt.hit {c : UInt8} {l : List UInt8} {k p : Nat} {done : List (List UInt8)} (h : SplitAt c l k p done) (hk : k < l.length) (hx : l[k] = c) : SplitAt c l (k + 1) (k + 1) (done ++ [(l.take k).drop p]) := by
  obtain ⟨h1, h2, h3⟩ := h.1 (by omega)
  obtain ⟨g1, g2⟩ := drop_take_get h1 hk
  have e : (l.drop p).take (k - p) = (l.take k).drop p := by rw [List.drop_take]
  have hh := splitBy_hit c (k - p) (l.drop p) g1 (by rw [e]; exact h3) (g2.trans hx)
  rw [e, List.drop_drop, show p + (k - p + 1) = k + 1 from by omega] at hh
  refine ⟨fun _ => ⟨Nat.le_refl _, ?_, ?_⟩, fun e => by omega⟩
  · rw [List.append_assoc, List.singleton_append, ← hh, h2]
  · rw [List.drop_of_length_le (by rw [List.length_take]; omega)]; rfl
theorem SplitAt.fin {c : UInt8} {l : List UInt8} {p : Nat} {done : List (List UInt8)} (h : SplitAt c l l.length p done) : SplitAt c l (l.length + 1) (l.length + 1) (done ++ [(l.take l.length).drop p]) := by
  obtain ⟨h1, h2, h3⟩ := h.1 (Nat.le_refl _)
  rw [List.take_length] at h3 ⊢
  refine ⟨fun h => by omega, fun _ => ?_⟩
  rw [← h2, splitBy_end c _ h3]

theorem SplitAt.fin' {c : UInt8} {l : List UInt8} {k p : Nat} {done : List (List UInt8)} (h : SplitAt c l k p done) (hk : k = l.length) : SplitAt c l (k + 1) (k + 1) (done ++ [(l.take k).drop p]) := by
  subst hk; exact h.fin

/-! ### List -/
def nonempty (l : List UInt8) : Bool := !l.isEmpty
def listOf (l : List UInt8) : List (List UInt8) := ((splitBy 44 l).map trim).filter nonempty
def elems (ls : List (List UInt8)) : List (List UInt8) := ls.flatMap listOf
def elemsS (ls : List ByteArray) : List ByteArray := (elems (ls.map bl)).map bs
/-- the elements of some parts -/
def partsS (ps : List ByteArray) : List ByteArray := ((ps.map fun p => trim (bl p)).filter nonempty).map bs
theorem partsS_append (a b : List ByteArray) : partsS (a ++ b) = partsS a ++ partsS b := by simp [partsS]
theorem elemsS_append (a b : List ByteArray) : elemsS (a ++ b) = elemsS a ++ elemsS b := by simp [elemsS, elems]
theorem elemsS_one (s : ByteArray) : elemsS [s] = partsS (splitS 44 s) := by
  simp only [elemsS, elems, partsS, splitS, List.map_cons, List.map_nil, List.flatMap_cons, List.flatMap_nil, List.append_nil, listOf, List.map_map]
  congr 2
theorem elemsS_succ (l : List ByteArray) (k : Nat) (h : k < l.length) : elemsS (l.take (k + 1)) = elemsS (l.take k) ++ partsS (splitS 44 l[k]) := by
  rw [List.take_succ_eq_append_getElem h, elemsS_append, elemsS_one]
theorem trimB_isEmpty (p : ByteArray) : (trimB p).toList.isEmpty = !nonempty (trim (bl p)) := by
  rw [toList_bl, trimB, bl_bs]; simp [nonempty]
theorem partsS_yes (ps : List ByteArray) (j : Nat) (h : j < ps.length) (hn : nonempty (trim (bl ps[j])) = true) : partsS (ps.take (j + 1)) = partsS (ps.take j) ++ [trimB ps[j]] := by
  rw [List.take_succ_eq_append_getElem h, partsS_append]
  congr 1
  simp [partsS, hn, trimB]
theorem partsS_no (ps : List ByteArray) (j : Nat) (h : j < ps.length) (hn : nonempty (trim (bl ps[j])) = false) : partsS (ps.take (j + 1)) = partsS (ps.take j) := by
  rw [List.take_succ_eq_append_getElem h, partsS_append]
  simp [partsS, hn]
theorem elemsS_part_le (l : List ByteArray) (k : Nat) (h : k < l.length) (j : Nat) : (elemsS (l.take k) ++ partsS ((splitS 44 l[k]).take j)).length ≤ (elemsS l).length := by
  have e1 : elemsS l = elemsS (l.take (k + 1)) ++ elemsS (l.drop (k + 1)) := by rw [← elemsS_append, List.take_append_drop]
  have e2 : partsS (splitS 44 l[k]) = partsS ((splitS 44 l[k]).take j) ++ partsS ((splitS 44 l[k]).drop j) := by rw [← partsS_append, List.take_append_drop]
  rw [e1, elemsS_succ l k h, e2]
  simp only [List.length_append]
  omega
theorem splitBy_length (c : UInt8) (l : List UInt8) : (splitBy c l).length ≤ l.length + 1 := by
  induction l with
  | nil => simp [splitBy]
  | cons x r ih =>
    unfold splitBy
    split
    · simp; exact ih
    · simp; omega
theorem splitS_length (c : UInt8) (s : ByteArray) : (splitS c s).length ≤ s.size + 1 := by
  rw [splitS, List.length_map, ← bl_length]; exact splitBy_length c _
theorem splitBy_len_mem (c : UInt8) (l : List UInt8) : ∀ p ∈ splitBy c l, p.length ≤ l.length := by
  induction l with
  | nil => intro p hp; simp [splitBy] at hp; simp [hp]
  | cons x r ih =>
    intro p hp
    obtain ⟨h, t, e⟩ := splitBy_ne c r
    unfold splitBy at hp
    split at hp
    · rcases List.mem_cons.1 hp with rfl | hp
      · simp
      · have := ih p hp; simp; omega
    · rw [e] at hp ih
      simp only [List.headD_cons, List.tail_cons] at hp
      rcases List.mem_cons.1 hp with rfl | hp
      · have := ih h (List.mem_cons_self ..); simp; omega
      · have := ih p (List.mem_cons_of_mem _ hp); simp; omega
theorem splitS_size (c : UInt8) (s : ByteArray) (p : ByteArray) (h : p ∈ splitS c s) : p.size ≤ s.size := by
  obtain ⟨q, hq, rfl⟩ := List.mem_map.1 h
  rw [bs_size, ← bl_length]; exact splitBy_len_mem c _ q hq

/-! ### more on elements -/
theorem splitBy_append (c : UInt8) (a b : List UInt8) : splitBy c (a ++ c :: b) = splitBy c a ++ splitBy c b := by
  induction a with
  | nil => simp [splitBy]
  | cons x r ih =>
    obtain ⟨h, t, e⟩ := splitBy_ne c r
    simp only [List.cons_append, splitBy, ih, e]
    split <;> simp
theorem listOf_join (a b : List UInt8) : listOf (a ++ 44 :: b) = listOf a ++ listOf b := by simp [listOf, splitBy_append]
theorem elemsS_join (a b : ByteArray) : elemsS [a ++ (⟨#[44]⟩ : ByteArray) ++ b] = elemsS [a, b] := by
  have e : bl (a ++ (⟨#[44]⟩ : ByteArray) ++ b) = bl a ++ 44 :: bl b := by rw [bl_append, bl_append]; simp [bl]
  simp only [elemsS, elems, List.map_cons, List.map_nil, List.flatMap_cons, List.flatMap_nil, List.append_nil, e, listOf_join]
theorem splitBy_none (c : UInt8) (l : List UInt8) : ∀ p ∈ splitBy c l, hasB p c = false := by
  induction l with
  | nil => intro p hp; simp [splitBy] at hp; subst hp; rfl
  | cons x r ih =>
    intro p hp
    obtain ⟨h, t, e⟩ := splitBy_ne c r
    unfold splitBy at hp
    split at hp
    · rcases List.mem_cons.1 hp with rfl | hp
      · rfl
      · exact ih p hp
    · rename_i hx
      rw [e] at hp ih
      simp only [List.headD_cons, List.tail_cons] at hp
      rcases List.mem_cons.1 hp with rfl | hp
      · have := ih h (List.mem_cons_self ..)
        simp only [hasB, List.any_cons] at this ⊢
        rw [this]; simp [hx]
      · exact ih p (List.mem_cons_of_mem _ hp)
theorem hasB_sub {l m : List UInt8} {c : UInt8} (h : hasB m c = false) (hs : ∀ x ∈ l, x ∈ m) : hasB l c = false := by
  unfold hasB at h ⊢
  rw [List.any_eq_false] at h ⊢
  exact fun x hx => h x (hs x hx)
theorem mem_trim {l : List UInt8} : ∀ x ∈ trim l, x ∈ l := by
  intro x hx
  unfold trim trimR trimL at hx
  rw [List.mem_reverse] at hx
  have h1 := (List.dropWhile_suffix blankB).subset hx
  rw [List.mem_reverse] at h1
  exact (List.dropWhile_suffix blankB).subset h1
/-- an element: trimmed, not empty, without a comma -/
def IsElem (l : List UInt8) : Prop := trim l = l ∧ l ≠ [] ∧ hasB l 44 = false
theorem mem_listOf {l p : List UInt8} (h : p ∈ listOf l) : IsElem p := by
  simp only [listOf, List.mem_filter, List.mem_map] at h
  obtain ⟨⟨q, hq, rfl⟩, hn⟩ := h
  refine ⟨trim_trim q, (by intro e; rw [e] at hn; cases hn), hasB_sub (splitBy_none 44 l q hq) mem_trim⟩
theorem listOf_elem {p : List UInt8} (h : IsElem p) : listOf p = [p] := by
  obtain ⟨h1, h2, h3⟩ := h
  rw [listOf, splitBy_end 44 p h3]
  simp [h1, nonempty, h2]
theorem elems_elems (ls : List (List UInt8)) : elems (elems ls) = elems ls := by
  have h : ∀ p ∈ elems ls, IsElem p := by
    intro p hp
    obtain ⟨q, -, hq⟩ := List.mem_flatMap.1 hp
    exact mem_listOf hq
  revert h
  generalize elems ls = m
  intro h
  induction m with
  | nil => rfl
  | cons x m ih =>
    have := ih fun p hp => h p (List.mem_cons_of_mem _ hp)
    unfold elems at this ⊢
    rw [List.flatMap_cons, this, listOf_elem (h x (List.mem_cons_self ..))]; rfl
theorem map_bl_bs (l : List (List UInt8)) : (l.map bs).map bl = l := by
  rw [List.map_map]
  induction l with
  | nil => rfl
  | cons x l ih => rw [List.map_cons, ih]; rfl
theorem elemsS_elemsS (l : List ByteArray) : elemsS (elemsS l) = elemsS l := by
  simp only [elemsS, map_bl_bs, elems_elems]
theorem mem_elemsS {l : List ByteArray} {p : ByteArray} (h : p ∈ elemsS l) : IsElem (bl p) ∧ trimB p = p ∧ p.toList.isEmpty = false := by
  obtain ⟨q, hq, rfl⟩ := List.mem_map.1 h
  obtain ⟨r, -, hr⟩ := List.mem_flatMap.1 hq
  have he := mem_listOf hr
  refine ⟨he, ?_, ?_⟩
  · rw [trimB, bl_bs, he.1]
  · rw [toList_bl, bl_bs]; simpa using he.2.1
theorem mem_elemsS_size {l : List ByteArray} {p : ByteArray} (h : p ∈ elemsS l) : ∃ s ∈ l, p.size ≤ s.size := by
  obtain ⟨q, hq, rfl⟩ := List.mem_map.1 h
  obtain ⟨r, hr, hqr⟩ := List.mem_flatMap.1 hq
  obtain ⟨s, hs, rfl⟩ := List.mem_map.1 hr
  refine ⟨s, hs, ?_⟩
  simp only [listOf, List.mem_filter, List.mem_map] at hqr
  obtain ⟨⟨u, hu, rfl⟩, -⟩ := hqr
  rw [bs_size]
  have h1 := splitBy_len_mem 44 (bl s) u hu
  have h2 := trimB_size (bs u)
  rw [trimB, bl_bs, bs_size, bs_size] at h2
  rw [bl_length] at h1
  omega
theorem elemsS_length (l : List ByteArray) : (elemsS l).length ≤ (l.map fun s => s.size + 1).sum := by
  induction l with
  | nil => simp [elemsS, elems]
  | cons s l ih =>
    have e : elemsS (s :: l) = elemsS [s] ++ elemsS l := elemsS_append [s] l
    rw [e, List.length_append, List.map_cons, List.sum_cons, elemsS_one]
    have h1 : (partsS (splitS 44 s)).length ≤ (splitS 44 s).length := by
      simp only [partsS, List.length_map]
      exact Nat.le_trans (List.length_filter_le _ _) (by simp)
    have h2 := splitS_length 44 s
    omega

end Go.Own

/-! Plain laws on header fields: how they read, Cut at one byte, Parse of a line. No program stands here. -/
namespace Go.Own
set_option linter.unusedVariables false

/-- a header field -/
structure Fld where
  name : ByteArray
  val : ByteArray
def Fld.cells (f : Fld) : List Value := [.string f.name, .string f.val]
def Fld.agg (f : Fld) : Value := .agg #[.string f.name, .string f.val]
def fieldsV (l : List Fld) : List Value := l.flatMap Fld.cells
theorem fieldsV_length (l : List Fld) : (fieldsV l).length = l.length * 2 := by
  induction l with
  | nil => rfl
  | cons f l ih => simp only [fieldsV, List.flatMap_cons, List.length_append, List.length_cons] at ih ⊢; rw [ih]; simp [Fld.cells]; omega
theorem fieldsV_append (l m : List Fld) : fieldsV (l ++ m) = fieldsV l ++ fieldsV m := List.flatMap_append
theorem fieldsV_get (l : List Fld) (k : Nat) (h : k < l.length) : (fieldsV l)[2 * k]? = some (.string l[k].name) ∧ (fieldsV l)[2 * k + 1]? = some (.string l[k].val) := by
  induction l generalizing k with
  | nil => cases h
  | cons f l ih =>
    cases k with
    | zero => exact ⟨rfl, rfl⟩
    | succ k =>
      have := ih k (by simpa using h)
      have e1 : 2 * (k + 1) = 2 * k + 1 + 1 := by omega
      have e2 : 2 * (k + 1) + 1 = 2 * k + 1 + 1 + 1 := by omega
      rw [e1]
      exact ⟨by simpa [fieldsV, Fld.cells] using this.1, by simpa [fieldsV, Fld.cells] using this.2⟩
theorem fieldsV_one (l : List Fld) : ∀ u ∈ fieldsV l, u.oneCell' = true := by
  intro u hu
  obtain ⟨f, -, hf⟩ := List.mem_flatMap.1 hu
  simp only [Fld.cells, List.mem_cons, List.not_mem_nil, or_false] at hf
  rcases hf with rfl | rfl <;> rfl
theorem fld_one (f : Fld) : ∀ u ∈ f.cells, u.oneCell' = true := by
  intro u hu
  simp only [Fld.cells, List.mem_cons, List.not_mem_nil, or_false] at hu
  rcases hu with rfl | rfl <;> rfl

/-- a []api.Field reads as l -/
def RdF (w : World) (v : Value) (l : List Fld) : Prop := Rd w v l.length (fieldsV l)
theorem RdF.below {w w' : World} {v : Value} {l : List Fld} (h : RdF w v l) (hb : Go.RowKit.Below w.heap.size w w') : RdF w' v l := Rd.below h hb
theorem RdF_nil (w : World) : RdF w (.slice none 0 0) [] :=
  ⟨none, 0, rfl, Nat.le_refl _, by simp [maxLen], fun _ => rfl, fun k hk => absurd hk (Nat.not_lt_zero _)⟩
theorem RdC.fld {w : World} {a : Option Addr} {l : List Fld} (h : RdC w a (fieldsV l)) (k : Nat) (hk : k < l.length) :
    ∃ b off, a = some ⟨b, off, none⟩ ∧ w.cell? ⟨b, off + k * 2, none⟩ = some (.string l[k].name) ∧ w.cell? ⟨b, off + k * 2 + 1, none⟩ = some (.string l[k].val) := by
  have hl := fieldsV_length l
  obtain ⟨b, off, ha, h1⟩ := h (2 * k) (by omega)
  obtain ⟨b2, off2, ha2, h2⟩ := h (2 * k + 1) (by omega)
  rw [ha] at ha2
  injection ha2 with e
  injection e with e1 e2
  subst e1 e2
  obtain ⟨g1, g2⟩ := fieldsV_get l k hk
  rw [List.getElem?_eq_getElem (by omega)] at g1 g2
  refine ⟨b, off, ha, ?_, ?_⟩
  · rw [Nat.mul_comm k 2, h1, g1]
  · rw [Nat.mul_comm k 2, Nat.add_assoc, h2, g2]

theorem RdC.fldAt {w : World} {b off : Nat} {l : List Fld} (h : RdC w (some ⟨b, off, none⟩) (fieldsV l)) (k : Nat) (hk : k < l.length) :
    w.cell? ⟨b, off + k * 2, none⟩ = some (.string l[k].name) ∧ w.cell? ⟨b, off + k * 2 + 1, none⟩ = some (.string l[k].val) := by
  obtain ⟨b2, off2, h1, h2, h3⟩ := h.fld k hk
  injection h1 with h1
  injection h1 with e1 e2
  subst e1 e2
  exact ⟨h2, h3⟩

def validF (f : Fld) : Bool := token (bl f.name) && value (bl f.val)

/-! ### Cut at one byte -/
theorem index_one_ge (c : UInt8) (l : List UInt8) : Lib.index l [c] = if hasB l c then ((l.takeWhile fun x => x != c).length : Int) else -1 := by
  induction l with
  | nil => rfl
  | cons x r ih =>
    by_cases hx : x = c
    · subst hx
      rw [index_cons_eq]; simp [hasB]
    · rw [index_cons_ne r hx, ih]
      have e : hasB (x :: r) c = hasB r c := by simp [hasB, hx]
      rw [e]
      have e2 : (x :: r).takeWhile (fun x => x != c) = x :: r.takeWhile (fun x => x != c) := by simp [hx]
      rw [e2]
      cases hasB r c
      · rfl
      · simp only [if_true]
        rw [if_neg (by rw [beq_iff_eq]; omega)]
        simp
/-- before and behind the first c -/
def before (c : UInt8) (l : List UInt8) : List UInt8 := l.takeWhile fun x => x != c
def behind (c : UInt8) (l : List UInt8) : List UInt8 := (l.dropWhile fun x => x != c).drop 1
theorem drop_takeWhile (p : UInt8 → Bool) (l : List UInt8) : l.drop (l.takeWhile p).length = l.dropWhile p := by
  induction l with
  | nil => rfl
  | cons x r ih => by_cases h : p x = true <;> simp [h, ih]
theorem take_takeWhile (p : UInt8 → Bool) (l : List UInt8) : l.take (l.takeWhile p).length = l.takeWhile p := by
  induction l with
  | nil => rfl
  | cons x r ih => by_cases h : p x = true <;> simp [h, ih]
theorem cut_one (c : UInt8) (l : List UInt8) : Lib.cut l [c] = if hasB l c then (before c l, behind c l, true) else (l, [], false) := by
  unfold Lib.cut
  rw [index_one_ge]
  cases h : hasB l c
  · simp
  · simp only [if_true]
    rw [if_pos (by omega)]
    have e : (((l.takeWhile fun x => x != c).length : Int)).toNat = (l.takeWhile fun x => x != c).length := Int.toNat_natCast _
    simp only [e, List.length_singleton]
    refine Prod.ext ?_ (Prod.ext ?_ rfl)
    · exact take_takeWhile _ _
    · show l.drop ((l.takeWhile fun x => x != c).length + 1) = _
      rw [← List.drop_drop, drop_takeWhile]; rfl
theorem before_at (c : UInt8) (l : List UInt8) (k : Nat) (h : k < l.length) (hn : hasB (l.take k) c = false) (he : l[k] = c) : hasB l c = true ∧ before c l = l.take k ∧ behind c l = l.drop (k + 1) := by
  refine ⟨hasB_at l k h he, ?_⟩
  induction l generalizing k with
  | nil => cases h
  | cons x r ih =>
    cases k with
    | zero => simp only [List.getElem_cons_zero] at he; simp [before, behind, he]
    | succ k =>
      simp only [hasB, List.take_succ_cons, List.any_cons, Bool.or_eq_false_iff] at hn
      have hx : x ≠ c := by simpa using hn.1
      have := ih k (by simpa using h) hn.2 (by simpa using he)
      simp only [before, behind] at this ⊢
      simp [hx, this]

/-! ### Parse of a line -/
def parseF (s : ByteArray) : Option Fld :=
  if hasB (bl s) 58 then
    let f : Fld := ⟨bs (before 58 (bl s)), trimB (bs (behind 58 (bl s)))⟩
    if validF f then some f else none
  else none
/-- what Parse returns -/
def parseV (s : ByteArray) : Value := match parseF s with
  | some f => .tuple #[f.agg, .int .i64 0]
  | none => .tuple #[.agg #[.string .empty, .string .empty], .int .i64 2]
theorem parseF_valid {s : ByteArray} {f : Fld} (h : parseF s = some f) : validF f = true := by
  unfold parseF at h
  split at h
  · simp only at h
    split at h
    · rename_i hv; injection h with h; rw [← h]; exact hv
    · cases h
  · cases h
theorem parseV_none {s : ByteArray} (h : hasB (bl s) 58 = false) : parseV s = .tuple #[.agg #[.string .empty, .string .empty], .int .i64 2] := by
  unfold parseV parseF; rw [h]; rfl
theorem parseV_some {s : ByteArray} (h : hasB (bl s) 58 = true) : parseV s = if validF ⟨bs (before 58 (bl s)), trimB (bs (behind 58 (bl s)))⟩ = true then .tuple #[.agg #[.string (bs (before 58 (bl s))), .string (trimB (bs (behind 58 (bl s))))], .int .i64 0] else .tuple #[.agg #[.string .empty, .string .empty], .int .i64 2] := by
  by_cases hv : validF ⟨bs (before 58 (bl s)), trimB (bs (behind 58 (bl s)))⟩ = true
  · have e : parseF s = some ⟨bs (before 58 (bl s)), trimB (bs (behind 58 (bl s)))⟩ := by unfold parseF; rw [if_pos h]; simp only; rw [if_pos hv]
    rw [if_pos hv]; unfold parseV; rw [e]; rfl
  · have e : parseF s = none := by unfold parseF; rw [if_pos h]; simp only; rw [if_neg hv]
    rw [if_neg hv]; unfold parseV; rw [e]
theorem parseV_at {s : ByteArray} {k : Nat} (h : hasB (bl s) 58 = true ∧ before 58 (bl s) = (bl s).take k ∧ behind 58 (bl s) = (bl s).drop (k + 1)) :
    parseV s = if validF ⟨s.extract 0 k, trimB (s.extract (k + 1) s.size)⟩ = true then .tuple #[.agg #[.string (s.extract 0 k), .string (trimB (s.extract (k + 1) s.size))], .int .i64 0] else .tuple #[.agg #[.string .empty, .string .empty], .int .i64 2] := by
  obtain ⟨h1, h2, h3⟩ := h
  rw [parseV_some h1]
  have e1 : bs (before 58 (bl s)) = s.extract 0 k := bl_inj (by rw [bl_bs, h2, bl_extract, List.drop_zero])
  have e2 : bs (behind 58 (bl s)) = s.extract (k + 1) s.size := bl_inj (by rw [bl_bs, h3, bl_extract, List.take_of_length_le (by rw [bl_length]; exact Nat.le_refl _)])
  rw [e1, e2]
theorem before_len (c : UInt8) (l : List UInt8) : (before c l).length ≤ l.length := (List.takeWhile_prefix _).length_le
theorem behind_len (c : UInt8) (l : List UInt8) : (behind c l).length ≤ l.length := by
  unfold behind
  rw [List.length_drop]
  have := (List.dropWhile_suffix (fun x => x != c) (l := l)).length_le
  omega

end Go.Own

/-! Plain laws on the lines of fields: Format, and that the line of a valid field is parsed to the field. No program stands here. -/
namespace Go.Own
set_option linter.unusedVariables false

def lineF (f : Fld) : List UInt8 := bl f.name ++ 58 :: 32 :: (bl f.val ++ [13, 10])
def lineB (f : Fld) : ByteArray := f.name ++ ⟨#[58, 32]⟩ ++ f.val ++ ⟨#[13, 10]⟩
theorem bl_lineB (f : Fld) : bl (lineB f) = lineF f := by
  unfold lineB lineF
  rw [bl_append, bl_append, bl_append]
  simp [bl]
theorem lineF_length (f : Fld) : (lineF f).length = f.name.size + f.val.size + 4 := by
  unfold lineF
  simp only [List.length_append, List.length_cons, bl_length, List.length_nil]
  omega
def linesL (l : List Fld) : List UInt8 := l.flatMap lineF
def formatB (l : List Fld) : ByteArray := if l.all validF then bs (linesL l) else .empty
theorem linesL_take (l : List Fld) (k : Nat) (h : k < l.length) : linesL (l.take (k + 1)) = linesL (l.take k) ++ lineF l[k] := by
  unfold linesL
  rw [List.take_succ_eq_append_getElem h, List.flatMap_append]
  simp
theorem linesL_length (l : List Fld) : (linesL l).length ≤ 2 * ((l.map fun f => f.name.size + f.val.size + 2).sum) := by
  induction l with
  | nil => exact Nat.zero_le _
  | cons f l ih =>
    unfold linesL at ih ⊢
    rw [List.flatMap_cons, List.length_append, lineF_length, List.map_cons, List.sum_cons]
    omega
theorem linesL_take_length (l : List Fld) (k : Nat) : (linesL (l.take k)).length ≤ 2 * ((l.map fun f => f.name.size + f.val.size + 2).sum) := by
  refine Nat.le_trans ?_ (linesL_length l)
  have h := List.take_append_drop k l
  have : linesL l = linesL (l.take k) ++ linesL (l.drop k) := by
    unfold linesL; rw [← List.flatMap_append, h]
  rw [this, List.length_append]
  omega
theorem format_fail {l : List Fld} (k : Nat) (h : k < l.length) (hv : validF l[k] = false) : formatB l = .empty := by
  have e : l.all validF = false := by rw [List.all_eq_false]; exact ⟨l[k], List.getElem_mem h, by simp [hv]⟩
  unfold formatB; rw [e]; rfl
theorem format_done {l : List Fld} (h : l.all validF = true) : formatB l = bs (linesL l) := by unfold formatB; rw [if_pos h]
theorem allF_succ {l : List Fld} (k : Nat) (h : k < l.length) (ht : (l.take k).all validF = true) (hv : validF l[k] = true) : (l.take (k + 1)).all validF = true := by
  rw [List.take_succ_eq_append_getElem h, List.all_append, ht]; simp [hv]
theorem bs_snoc_line (l : List UInt8) (f : Fld) : bs (l ++ lineF f) = bs l ++ f.name ++ ⟨#[58, 32]⟩ ++ f.val ++ ⟨#[13, 10]⟩ := by
  apply bl_inj
  rw [bl_append, bl_append, bl_append, bl_append, bl_bs, bl_bs]
  simp [lineF, bl]

/-! ### the line of a valid field -/
theorem tchar_no_colon : tchar 58 = false := by decide +kernel
theorem token_no_colon {l : List UInt8} (h : token l = true) : hasB l 58 = false := by
  unfold token at h
  rw [Bool.and_eq_true] at h
  have h1 := List.all_eq_true.1 h.1
  unfold hasB
  rw [List.any_eq_false]
  intro x hx e
  have := h1 x hx
  rw [beq_iff_eq] at e
  rw [e, tchar_no_colon] at this
  cases this
theorem before_of {c : UInt8} {l r : List UInt8} (h : hasB l c = false) : hasB (l ++ c :: r) c = true ∧ before c (l ++ c :: r) = l ∧ behind c (l ++ c :: r) = r := by
  have := before_at c (l ++ c :: r) l.length (by simp) (by simpa using h) (by simp)
  refine ⟨this.1, ?_, ?_⟩
  · rw [this.2.1]; simp
  · rw [this.2.2]; simp
theorem parse_line {f : Fld} (h : validF f = true) : parseF (bs (bl f.name ++ 58 :: 32 :: bl f.val)) = some f := by
  have hv := h
  unfold validF at hv
  rw [Bool.and_eq_true] at hv
  obtain ⟨h1, h2⟩ := hv
  obtain ⟨g1, g2, g3⟩ := before_of (r := 32 :: bl f.val) (token_no_colon h1)
  unfold value at h2
  rw [Bool.and_eq_true, beq_iff_eq] at h2
  unfold parseF
  rw [bl_bs, g1, g2, g3]
  have e : trimB (bs (32 :: bl f.val)) = f.val := by
    unfold trimB
    rw [bl_bs, trim_cons _ _ (by decide +kernel), h2.2, bs_bl]
  rw [e, bs_bl]
  simp only [if_true]
  rw [if_pos h]
theorem line_cut (f : Fld) : (lineB f).extract 0 ((lineB f).size - 2) = bs (bl f.name ++ 58 :: 32 :: bl f.val) := by
  apply bl_inj
  rw [bl_extract, bl_bs, bl_lineB, List.drop_zero]
  have e1 : (lineB f).size = f.name.size + f.val.size + 4 := by rw [← bl_length, bl_lineB, lineF_length]
  have e2 : lineF f = (bl f.name ++ 58 :: 32 :: bl f.val) ++ [13, 10] := by simp [lineF]
  rw [e2, List.take_append_of_le_length (by rw [e1]; simp [bl_length]; omega), List.take_of_length_le (by rw [e1]; simp [bl_length]; omega)]
theorem lineB_size (f : Fld) : (lineB f).size = f.name.size + f.val.size + 4 := by rw [← bl_length, bl_lineB, lineF_length]
theorem format_one {f : Fld} (h : validF f = true) : formatB [f] = lineB f := by
  rw [format_done (by simp [h])]
  apply bl_inj
  rw [bl_bs, bl_lineB]
  simp [linesL]
end Go.Own

/-! Plain laws on cookies: the pairs of a Cookie value, the first pair with a name, IDs. No program stands here. -/
namespace Go.Own
set_option linter.unusedVariables false

instance : DecidableEq Fld := fun a b => decidable_of_iff (a.name = b.name ∧ a.val = b.val) ⟨fun ⟨h1, h2⟩ => by cases a; cases b; simp only at h1 h2; rw [h1, h2], fun h => by rw [h]; exact ⟨rfl, rfl⟩⟩

/-- the pair of one part of a value -/
def pairF (s : ByteArray) : Option Fld :=
  if hasB (bl (trimB s)) 61 && token (before 61 (bl (trimB s))) then some ⟨bs (before 61 (bl (trimB s))), bs (behind 61 (bl (trimB s)))⟩ else none
def pairsP (ps : List ByteArray) : List Fld := ps.filterMap pairF
def pairsS (vals : List ByteArray) : List Fld := vals.flatMap fun v => pairsP (splitS 59 v)
def findP (l : List Fld) (name : ByteArray) : Option Fld := l.find? fun p => seq p.name name

theorem pairF_yes {s : ByteArray} (h1 : hasB (bl (trimB s)) 61 = true) (h2 : token (before 61 (bl (trimB s))) = true) : pairF s = some ⟨bs (before 61 (bl (trimB s))), bs (behind 61 (bl (trimB s)))⟩ := by unfold pairF; rw [h1, h2]; rfl
theorem pairF_no1 {s : ByteArray} (h1 : hasB (bl (trimB s)) 61 = false) : pairF s = none := by unfold pairF; rw [h1]; rfl
theorem pairF_no2 {s : ByteArray} (h2 : token (before 61 (bl (trimB s))) = false) : pairF s = none := by unfold pairF; rw [h2, Bool.and_false]; rfl
theorem cut_ext {c : UInt8} {t : ByteArray} {k : Nat} (h : hasB (bl t) c = true ∧ before c (bl t) = (bl t).take k ∧ behind c (bl t) = (bl t).drop (k + 1)) : bs (before c (bl t)) = t.extract 0 k ∧ bs (behind c (bl t)) = t.extract (k + 1) t.size :=
  ⟨bl_inj (by rw [bl_bs, h.2.1, bl_extract, List.drop_zero]), bl_inj (by rw [bl_bs, h.2.2, bl_extract, List.take_of_length_le (by rw [bl_length]; exact Nat.le_refl _)])⟩
theorem pairsP_append (a b : List ByteArray) : pairsP (a ++ b) = pairsP a ++ pairsP b := List.filterMap_append
theorem pairsP_yes (ps : List ByteArray) (j : Nat) (h : j < ps.length) {p : Fld} (hp : pairF ps[j] = some p) : pairsP (ps.take (j + 1)) = pairsP (ps.take j) ++ [p] := by
  rw [List.take_succ_eq_append_getElem h, pairsP_append]
  simp [pairsP, hp]
theorem pairsP_no (ps : List ByteArray) (j : Nat) (h : j < ps.length) (hp : pairF ps[j] = none) : pairsP (ps.take (j + 1)) = pairsP (ps.take j) := by
  rw [List.take_succ_eq_append_getElem h, pairsP_append]
  simp [pairsP, hp]
theorem pairsS_append (a b : List ByteArray) : pairsS (a ++ b) = pairsS a ++ pairsS b := List.flatMap_append
theorem pairsS_succ (l : List ByteArray) (k : Nat) (h : k < l.length) : pairsS (l.take (k + 1)) = pairsS (l.take k) ++ pairsP (splitS 59 l[k]) := by
  rw [List.take_succ_eq_append_getElem h, pairsS_append]
  simp [pairsS]
theorem pairsS_part_le (l : List ByteArray) (k : Nat) (h : k < l.length) (j : Nat) : (pairsS (l.take k) ++ pairsP ((splitS 59 l[k]).take j)).length ≤ (pairsS l).length := by
  have e1 : pairsS l = pairsS (l.take (k + 1)) ++ pairsS (l.drop (k + 1)) := by rw [← pairsS_append, List.take_append_drop]
  have e2 : pairsP (splitS 59 l[k]) = pairsP ((splitS 59 l[k]).take j) ++ pairsP ((splitS 59 l[k]).drop j) := by rw [← pairsP_append, List.take_append_drop]
  rw [e1, pairsS_succ l k h, e2]
  simp only [List.length_append]
  omega
theorem pairsS_length (l : List ByteArray) : (pairsS l).length ≤ (l.map fun s => s.size + 1).sum := by
  induction l with
  | nil => simp [pairsS]
  | cons s l ih =>
    have e : pairsS (s :: l) = pairsP (splitS 59 s) ++ pairsS l := by simp [pairsS]
    rw [e, List.length_append, List.map_cons, List.sum_cons]
    have h1 : (pairsP (splitS 59 s)).length ≤ (splitS 59 s).length := List.length_filterMap_le _ _
    have h2 := splitS_length 59 s
    omega
theorem pairF_size {s : ByteArray} {p : Fld} (h : pairF s = some p) : p.name.size ≤ s.size ∧ p.val.size ≤ s.size := by
  unfold pairF at h
  split at h
  · injection h with h
    subst h
    have h1 := before_len 61 (bl (trimB s))
    have h2 := behind_len 61 (bl (trimB s))
    have h3 := trimB_size s
    rw [bl_length] at h1 h2
    exact ⟨by rw [bs_size]; omega, by rw [bs_size]; omega⟩
  · cases h
theorem pairsS_mem {l : List ByteArray} {p : Fld} (h : p ∈ pairsS l) : ∃ s ∈ l, p.name.size ≤ s.size ∧ p.val.size ≤ s.size := by
  obtain ⟨s, hs, hp⟩ := List.mem_flatMap.1 h
  obtain ⟨q, hq, hqp⟩ := List.mem_filterMap.1 hp
  have h1 := pairF_size hqp
  have h2 := splitS_size 59 s q hq
  exact ⟨s, hs, by omega, by omega⟩
theorem findP_hit (l : List Fld) (name : ByteArray) (k : Nat) (h : k < l.length) (hn : findP (l.take k) name = none) (he : seq l[k].name name = true) : findP l name = some l[k] := by
  have e : l = l.take k ++ l[k] :: l.drop (k + 1) := by rw [← List.drop_eq_getElem_cons h, List.take_append_drop]
  unfold findP at hn ⊢
  conv => lhs; rw [e]
  rw [List.find?_append, hn, Option.none_or, List.find?_cons_of_pos (p := fun p : Fld => seq p.name name) he]
theorem findP_skip (l : List Fld) (name : ByteArray) (k : Nat) (h : k < l.length) (hn : findP (l.take k) name = none) (he : seq l[k].name name = false) : findP (l.take (k + 1)) name = none := by
  unfold findP at hn ⊢
  rw [List.take_succ_eq_append_getElem h, List.find?_append, hn, Option.none_or, List.find?_cons_of_neg (p := fun p : Fld => seq p.name name) (by simp [he])]; rfl
theorem findP_end (l : List Fld) (name : ByteArray) (k : Nat) (h : l.length ≤ k) (hn : findP (l.take k) name = none) : findP l name = none := by rwa [List.take_of_length_le h] at hn
theorem findP_mem {l : List Fld} {name : ByteArray} {p : Fld} (h : findP l name = some p) : p ∈ l := List.mem_of_find?_eq_some h

/-! ### IDs -/
def hexc (c : UInt8) : Bool := digitB c || decide (97 ≤ c.toNat) && decide (c.toNat ≤ 102)
def idB (s : ByteArray) : Bool := (bl s).all hexc && s.size == 16
end Go.Own

/-! Plain laws on numerals: digits in a base, hexadecimal words of a fixed width. No program stands here. -/
namespace Go.Own
set_option linter.unusedVariables false

/-- the digit d -/
def hexD (d : Nat) : UInt8 := if d < 10 then UInt8.ofNat (48 + d) else UInt8.ofNat (87 + d)
/-- n's numeral in base b -/
def digs (b n : Nat) : List UInt8 :=
  if h : n < b ∨ b < 2 then [hexD n] else digs b (n / b) ++ [hexD (n % b)]
termination_by n
decreasing_by
  have : b ≤ n ∧ 2 ≤ b := by omega
  exact Nat.div_lt_self (by omega) (by omega)
theorem digs_small {b n : Nat} (h : n < b) : digs b n = [hexD n] := by rw [digs, dif_pos (Or.inl h)]
theorem digs_step {b n : Nat} (hb : 2 ≤ b) (h : b ≤ n) : digs b n = digs b (n / b) ++ [hexD (n % b)] := by
  conv => lhs; rw [digs]
  rw [dif_neg (by omega)]
theorem digs_ten (n : Nat) : digs 10 n = Lib.decDigits n := by
  induction n using Nat.strongRecOn with
  | ind n ih =>
    rw [Lib.decDigits]
    by_cases h : n < 10
    · rw [digs_small h, dif_pos h]
      unfold hexD; rw [if_pos h]
    · rw [digs_step (by omega) (by omega), dif_neg h, ih (n / 10) (by omega)]
      unfold hexD; rw [if_pos (by omega)]
theorem digs_length_le (b n k : Nat) (hb : 2 ≤ b) (h : n < b ^ (k + 1)) : (digs b n).length ≤ k + 1 := by
  induction k generalizing n with
  | zero => rw [digs_small (by simpa using h)]; simp
  | succ k ih =>
    by_cases hn : n < b
    · rw [digs_small hn]; simp
    · rw [digs_step hb (by omega), List.length_append]
      have := ih (n / b) (by rw [Nat.div_lt_iff_lt_mul (by omega), ← Nat.pow_succ]; exact h)
      simp; omega
theorem digs_pos (b n : Nat) : 0 < (digs b n).length := by
  rw [digs]; split <;> simp

/-- x's last k digits in base 16 -/
def hexN : Nat → Nat → List UInt8
  | 0, _ => []
  | k + 1, x => hexN k (x / 16) ++ [hexD (x % 16)]
theorem hexN_length (k x : Nat) : (hexN k x).length = k := by
  induction k generalizing x with
  | zero => rfl
  | succ k ih => rw [hexN, List.length_append, ih]; rfl
theorem hexN_zero (k : Nat) : hexN k 0 = List.replicate k 48 := by
  induction k with
  | zero => rfl
  | succ k ih => rw [hexN, Nat.zero_div, ih, List.replicate_succ']; rfl
theorem hexN_pad (k x : Nat) (h : x < 16 ^ (k + 1)) : List.replicate (k + 1 - (digs 16 x).length) 48 ++ digs 16 x = hexN (k + 1) x := by
  induction k generalizing x with
  | zero =>
    have hx : x < 16 := by simpa using h
    rw [digs_small hx]
    simp [hexN, Nat.mod_eq_of_lt hx]
  | succ k ih =>
    by_cases hx : x < 16
    · rw [digs_small hx, hexN, Nat.div_eq_of_lt hx, hexN_zero, Nat.mod_eq_of_lt hx]
      rfl
    · rw [digs_step (by omega) (by omega), List.length_append, List.length_singleton, ← List.append_assoc, hexN]
      rw [← ih (x / 16) (by rw [Nat.div_lt_iff_lt_mul (by omega), ← Nat.pow_succ]; exact h)]
      rw [show k + 1 + 1 - ((digs 16 (x / 16)).length + 1) = k + 1 - (digs 16 (x / 16)).length from by omega]
theorem hexN_add (a b x : Nat) : hexN (a + b) x = hexN a (x / 16 ^ b) ++ hexN b (x % 16 ^ b) := by
  induction b generalizing x with
  | zero => simp [hexN]
  | succ b ih =>
    rw [← Nat.add_assoc, hexN, ih, hexN, List.append_assoc]
    have e1 : x / 16 / 16 ^ b = x / 16 ^ (b + 1) := by rw [Nat.div_div_eq_div_mul, Nat.pow_succ, Nat.mul_comm]
    have e2 : x % 16 ^ (b + 1) / 16 = x / 16 % 16 ^ b := by
      rw [Nat.pow_succ, Nat.mul_comm, Nat.mod_mul_right_div_self]
    have e3 : x % 16 ^ (b + 1) % 16 = x % 16 := by
      rw [Nat.pow_succ]; exact Nat.mod_mul_left_mod _ _ _
    rw [e1, e2, e3]
theorem hexN_next (h i : Nat) (hi : i < 16) : hexN (i + 1) (h / 16 ^ (15 - i)) = hexN i (h / 16 ^ (16 - i)) ++ [hexD (h / 16 ^ (15 - i) % 16)] := by
  rw [hexN, Nat.div_div_eq_div_mul, ← Nat.pow_succ]
  rw [show (15 - i).succ = 16 - i from by omega]

theorem hexD_hex (d : Nat) (h : d < 16) : (48 ≤ (hexD d).toNat ∧ (hexD d).toNat ≤ 57) ∨ (97 ≤ (hexD d).toNat ∧ (hexD d).toNat ≤ 102) := by
  unfold hexD
  split
  · left; simp; omega
  · right; simp; omega
theorem hexN_mem {k x : Nat} {c : UInt8} (h : c ∈ hexN k x) : ∃ d, d < 16 ∧ c = hexD d := by
  induction k generalizing x with
  | zero => cases h
  | succ k ih =>
    rw [hexN, List.mem_append] at h
    rcases h with h | h
    · exact ih h
    · exact ⟨x % 16, by omega, List.mem_singleton.1 h⟩
/-- the ID of a hash -/
def idOf (h : Nat) : ByteArray := bs (hexN 16 h)
theorem idOf_size (h : Nat) : (idOf h).size = 16 := by rw [idOf, bs_size, hexN_length]
end Go.Own

/-! Plain laws: a cookie is found again. No program stands here. -/
namespace Go.Own
set_option linter.unusedVariables false

theorem splitS_two {p r : List UInt8} (h : hasB p 59 = false) : splitS 59 (bs (p ++ 59 :: r)) = bs p :: splitS 59 (bs r) := by
  unfold splitS
  rw [bl_bs, bl_bs, splitBy_append, splitBy_end 59 p h]; rfl
theorem splitS_last {p : List UInt8} (h : hasB p 59 = false) : splitS 59 (bs p) = [bs p] := by
  unfold splitS
  rw [bl_bs, splitBy_end 59 p h]; rfl
theorem dropWhile_snoc {p : UInt8 → Bool} (s : List UInt8) {c : UInt8} {t : List UInt8} (hc : p c = false) : (s ++ c :: t).dropWhile p = s.dropWhile p ++ c :: t := by
  induction s with
  | nil => simp [hc]
  | cons x s ih => by_cases hx : p x = true <;> simp [hx, ih]
theorem trimR_append {l s : List UInt8} {c : UInt8} (hc : blankB c = false) : trimR (l ++ c :: s) = l ++ c :: trimR s := by
  unfold trimR
  rw [List.reverse_append, List.reverse_cons, List.append_assoc, List.singleton_append, dropWhile_snoc _ hc, List.reverse_append, List.reverse_cons, List.reverse_reverse, List.append_assoc]; rfl
theorem trimL_head {c : UInt8} {r : List UInt8} (hc : blankB c = false) : trimL (c :: r) = c :: r := by simp [trimL, hc]
/-- 'n=s', n beginning with no blank -/
theorem trim_named {c : UInt8} {n s : List UInt8} (hc : blankB c = false) : trim (c :: n ++ 61 :: s) = c :: n ++ 61 :: trimR s := by
  unfold trim
  rw [List.cons_append, trimL_head hc, ← List.cons_append, trimR_append (by decide +kernel)]
theorem pairF_named {c : UInt8} {n s : List UInt8} (hc : blankB c = false) (ht : token (c :: n) = true) (he : hasB (c :: n) 61 = false) : pairF (bs (c :: n ++ 61 :: s)) = some ⟨bs (c :: n), bs (trimR s)⟩ := by
  have e : bl (trimB (bs (c :: n ++ 61 :: s))) = c :: n ++ 61 :: trimR s := by rw [trimB, bl_bs, bl_bs, trim_named hc]
  have hb := before_of (r := trimR s) he
  rw [pairF_yes (by rw [e]; exact hb.1) (by rw [e, hb.2.1]; exact ht), e, hb.2.1, hb.2.2]
theorem pairF_blank {b : UInt8} {l : List UInt8} (hb : blankB b = true) : pairF (bs (b :: l)) = pairF (bs l) := by
  have e : trimB (bs (b :: l)) = trimB (bs l) := by rw [trimB, trimB, bl_bs, bl_bs, trim_cons _ _ hb]
  unfold pairF; rw [e]
theorem hexc_not {c d : UInt8} (h : hexc c = true) (hd : hexc d = false) : c ≠ d := by rintro rfl; rw [h] at hd; cases hd
theorem hex_no {l : List UInt8} {d : UInt8} (h : l.all hexc = true) (hd : hexc d = false) : hasB l d = false := by
  unfold hasB
  rw [List.any_eq_false]
  intro x hx e
  rw [beq_iff_eq] at e
  exact hexc_not (List.all_eq_true.1 h x hx) hd e
theorem hex_blank {c : UInt8} (h : hexc c = true) : blankB c = false := by
  cases hb : blankB c with
  | false => rfl
  | true =>
    exfalso
    simp [hexc, digitB] at h
    simp [blankB] at hb
    omega
theorem trimR_hex {l : List UInt8} (h : l.all hexc = true) : trimR l = l := by
  rcases List.eq_nil_or_concat l with rfl | ⟨r, c, rfl⟩
  · rfl
  · have hc : hexc c = true := List.all_eq_true.1 h c (by simp)
    rw [List.concat_eq_append, trimR_append (s := []) (hex_blank hc)]; rfl
theorem idOf_all (h : Nat) : (bl (idOf h)).all hexc = true := by
  rw [idOf, bl_bs, List.all_eq_true]
  intro c hc
  obtain ⟨d, hd, rfl⟩ := hexN_mem hc
  have := hexD_hex d hd
  simp [hexc, digitB]
  omega
theorem hasB_append (l r : List UInt8) (c : UInt8) : hasB (l ++ r) c = (hasB l c || hasB r c) := List.any_append
theorem findP_cons_yes {p : Fld} {l : List Fld} {name : ByteArray} (h : seq p.name name = true) : findP (p :: l) name = some p := by unfold findP; exact List.find?_cons_of_pos (p := fun p : Fld => seq p.name name) h
theorem findP_cons_no {p : Fld} {l : List Fld} {name : ByteArray} (h : seq p.name name = false) : findP (p :: l) name = findP l name := by unfold findP; exact List.find?_cons_of_neg (p := fun p : Fld => seq p.name name) (by simp [h])
theorem pairsP_cons_some {s : ByteArray} {l : List ByteArray} {p : Fld} (h : pairF s = some p) : pairsP (s :: l) = p :: pairsP l := by simp [pairsP, h]

def nameC : ByteArray := ⟨#[99]⟩
theorem part_c (x : ByteArray) (h : (bl x).all hexc = true) : pairF (bs (99 :: 61 :: bl x)) = some ⟨nameC, x⟩ := by
  have := pairF_named (c := 99) (n := []) (s := bl x) (by decide +kernel) (by decide +kernel) (by decide +kernel)
  rw [trimR_hex h, bs_bl] at this
  exact this
theorem no59_c {x : ByteArray} (h : (bl x).all hexc = true) : hasB (99 :: 61 :: bl x) 59 = false := by
  have := hex_no h (d := 59) (by decide +kernel)
  simp only [hasB, List.any_cons] at this ⊢
  rw [this]; decide
/-- 'c=X; c=Y' -/
theorem find_first (x y : ByteArray) (h : (bl x).all hexc = true) : findP (pairsS [(⟨#[99, 61]⟩ : ByteArray) ++ x ++ ⟨#[59, 32, 99, 61]⟩ ++ y]) nameC = some ⟨nameC, x⟩ := by
  have e : (⟨#[99, 61]⟩ : ByteArray) ++ x ++ ⟨#[59, 32, 99, 61]⟩ ++ y = bs ((99 :: 61 :: bl x) ++ 59 :: (32 :: 99 :: 61 :: bl y)) := by
    apply bl_inj
    rw [bl_append, bl_append, bl_append, bl_bs]
    simp [bl]
  unfold pairsS
  rw [e, List.flatMap_cons, List.flatMap_nil, List.append_nil, splitS_two (no59_c h), pairsP_cons_some (part_c x h), findP_cons_yes (seq_self _)]
theorem find_second (x y : ByteArray) (h : (bl x).all hexc = true) : findP (pairsS [(⟨#[99, 61]⟩ : ByteArray) ++ x, (⟨#[99, 61]⟩ : ByteArray) ++ y]) nameC = some ⟨nameC, x⟩ := by
  have e : (⟨#[99, 61]⟩ : ByteArray) ++ x = bs (99 :: 61 :: bl x) := by
    apply bl_inj
    rw [bl_append, bl_bs]
    simp [bl]
  unfold pairsS
  rw [e, List.flatMap_cons, splitS_last (no59_c h), pairsP_cons_some (part_c x h), List.cons_append, findP_cons_yes (seq_self _)]

def nameCohort : ByteArray := ⟨#[99, 111, 104, 111, 114, 116]⟩
theorem part_cohort (x : ByteArray) (h : (bl x).all hexc = true) : pairF (bs (32 :: 99 :: 111 :: 104 :: 111 :: 114 :: 116 :: 61 :: bl x)) = some ⟨nameCohort, x⟩ := by
  rw [pairF_blank (by decide +kernel)]
  have := pairF_named (c := 99) (n := [111, 104, 111, 114, 116]) (s := bl x) (by decide +kernel) (by decide +kernel) (by decide +kernel)
  rw [trimR_hex h, bs_bl] at this
  exact this
/-- 'x=..; cohort=ID; y=..' -/
theorem find_found (x : ByteArray) (s1 s2 : List UInt8) (h : (bl x).all hexc = true) (h1 : hasB s1 59 = false) :
    findP (pairsS [(⟨#[120, 61]⟩ : ByteArray) ++ bs s1 ++ ⟨#[59, 32]⟩ ++ ((⟨#[99, 111, 104, 111, 114, 116, 61]⟩ : ByteArray) ++ x) ++ ⟨#[59, 32, 121, 61]⟩ ++ bs s2]) nameCohort = some ⟨nameCohort, x⟩ := by
  have e : (⟨#[120, 61]⟩ : ByteArray) ++ bs s1 ++ ⟨#[59, 32]⟩ ++ ((⟨#[99, 111, 104, 111, 114, 116, 61]⟩ : ByteArray) ++ x) ++ ⟨#[59, 32, 121, 61]⟩ ++ bs s2 = bs ((120 :: 61 :: s1) ++ 59 :: ((32 :: 99 :: 111 :: 104 :: 111 :: 114 :: 116 :: 61 :: bl x) ++ 59 :: (32 :: 121 :: 61 :: s2))) := by
    apply bl_inj
    rw [bl_append, bl_append, bl_append, bl_append, bl_append, bl_bs, bl_bs, bl_bs]
    simp [bl]
  have n1 : hasB (120 :: 61 :: s1) 59 = false := by
    simp only [hasB, List.any_cons] at h1 ⊢
    rw [h1]; decide
  have n2 : hasB (32 :: 99 :: 111 :: 104 :: 111 :: 114 :: 116 :: 61 :: bl x) 59 = false := by
    have := hex_no h (d := 59) (by decide +kernel)
    simp only [hasB, List.any_cons] at this ⊢
    rw [this]; decide
  have p1 : pairF (bs (120 :: 61 :: s1)) = some ⟨bs [120], bs (trimR s1)⟩ := pairF_named (c := 120) (n := []) (s := s1) (by decide +kernel) (by decide +kernel) (by decide +kernel)
  unfold pairsS
  rw [e, List.flatMap_cons, List.flatMap_nil, List.append_nil, splitS_two n1, pairsP_cons_some p1, findP_cons_no (p := ⟨bs [120], bs (trimR s1)⟩) (show seq (bs [120]) nameCohort = false by decide +kernel), splitS_two n2, pairsP_cons_some (part_cohort x h), findP_cons_yes (seq_self _)]
end Go.Own

/-! Plain laws on reading numbers. No program stands here. -/
namespace Go.Own
set_option linter.unusedVariables false

/-- the value of a digit, 16 for any other byte -/
def digV (c : UInt8) : Int := if 48 ≤ c.toNat ∧ c.toNat ≤ 57 then (c.toNat : Int) - 48 else if 97 ≤ c.toNat ∧ c.toNat ≤ 102 then (c.toNat : Int) - 87 else if 65 ≤ c.toNat ∧ c.toNat ≤ 70 then (c.toNat : Int) - 55 else 16
theorem digV_bd (c : UInt8) : 0 ≤ digV c ∧ digV c ≤ 16 := by
  unfold digV
  split
  · omega
  · split
    · omega
    · split <;> omega
def accN (b most : Int) : Int → List UInt8 → Option Int
  | n, [] => some n
  | n, c :: r => if most < digV c ∨ (most - digV c) / b < n then none else accN b most (n * b + digV c) r
def badN (b : Int) (l : List UInt8) : Bool := l.any fun c => decide (b ≤ digV c)
def parseN (b most : Int) (l : List UInt8) : Int × Int :=
  if badN b l || l.isEmpty then (0, 2) else match accN b most 0 l with
    | some n => (n, 0)
    | none => (0, 3)
theorem accN_stop {b most n : Int} {l : List UInt8} {k : Nat} (hk : k < l.length) (h : most < digV l[k] ∨ (most - digV l[k]) / b < n) : accN b most n (l.drop k) = none := by
  rw [List.drop_eq_getElem_cons hk, accN, if_pos h]
theorem accN_step {b most n : Int} {l : List UInt8} {k : Nat} (hk : k < l.length) (h : ¬ (most < digV l[k] ∨ (most - digV l[k]) / b < n)) : accN b most n (l.drop k) = accN b most (n * b + digV l[k]) (l.drop (k + 1)) := by
  rw [List.drop_eq_getElem_cons hk, accN, if_neg h]
theorem accN_bd {b most n d : Int} (hb : 0 < b) (hd : 0 ≤ d) (hn : 0 ≤ n) (h : ¬ (most < d ∨ (most - d) / b < n)) : 0 ≤ n * b + d ∧ n * b + d ≤ most := by
  have h1 : n ≤ (most - d) / b := by omega
  have h2 : n * b ≤ (most - d) / b * b := Int.mul_le_mul_of_nonneg_right h1 (by omega)
  have h3 : (most - d) / b * b ≤ most - d := Int.ediv_mul_le _ (by omega)
  have h4 : 0 ≤ n * b := Int.mul_nonneg hn (by omega)
  omega
theorem parseN_bad {b most : Int} {l : List UInt8} (h : badN b l = true) : parseN b most l = (0, 2) := by unfold parseN; rw [h]; rfl
theorem parseN_empty {b most : Int} : parseN b most [] = (0, 2) := rfl
theorem parseN_some {b most n : Int} {l : List UInt8} (h : badN b l = false) (h0 : l ≠ []) (ha : accN b most 0 l = some n) : parseN b most l = (n, 0) := by
  unfold parseN; rw [h, ha]; simp [h0]
theorem parseN_none {b most : Int} {l : List UInt8} (h : badN b l = false) (h0 : l ≠ []) (ha : accN b most 0 l = none) : parseN b most l = (0, 3) := by
  unfold parseN; rw [h, ha]; simp [h0]
theorem badN_at {b : Int} (l : List UInt8) (k : Nat) (h : k < l.length) (hb : b ≤ digV l[k]) : badN b l = true := by
  unfold badN; rw [List.any_eq_true]; exact ⟨l[k], List.getElem_mem h, by simpa using hb⟩
theorem badN_succ {b : Int} (l : List UInt8) (k : Nat) (h : k < l.length) (ht : badN b (l.take k) = false) (hb : ¬ b ≤ digV l[k]) : badN b (l.take (k + 1)) = false := by
  unfold badN at ht ⊢
  rw [List.take_succ_eq_append_getElem h, List.any_append, ht]
  simpa using hb
theorem badN_full {b : Int} (l : List UInt8) (k : Nat) (h : l.length ≤ k) (ht : badN b (l.take k) = false) : badN b l = false := by rwa [List.take_of_length_le h] at ht
theorem badN_get {b : Int} {l : List UInt8} (h : badN b l = false) (k : Nat) (hk : k < l.length) : ¬ b ≤ digV l[k] := by
  unfold badN at h
  rw [List.any_eq_false] at h
  simpa using h l[k] (List.getElem_mem hk)
end Go.Own

/-! Plain laws on start lines: targets, versions, the bytes of a rune. No program stands here. -/
namespace Go.Own
set_option linter.unusedVariables false

def targetC (c : UInt8) : Bool := decide (33 ≤ c.toNat) && decide (c.toNat ≤ 126) && !(c.toNat == 35)
def targetB (s : ByteArray) : Bool := (bl s).all targetC && ((bl s).head? == some 47)

/-- a byte of 128 or more begins a rune of 128 or more -/
theorem decode_big (s : ByteArray) (k : Nat) (h : k < s.size) (hb : 128 ≤ (s[k]'h).toNat) : 128 ≤ (Utf8.decode s k).1 := by
  have e : s.get! (k + 0) = s[k]'h := by
    show s.get! k = _
    simp [ByteArray.get!, getElem!_pos, h]
    rfl
  unfold Utf8.decode
  simp only [e]
  rw [if_neg (by omega)]
  split
  · split
    · simp only; omega
    · simp [Utf8.runeError]
  · split
    · split
      · rename_i hc
        simp only [Bool.and_eq_true, decide_eq_true_eq] at hc
        simp only; omega
      · simp [Utf8.runeError]
    · split
      · split
        · rename_i hc
          simp only [Bool.and_eq_true, decide_eq_true_eq] at hc
          simp only; omega
        · simp [Utf8.runeError]
      · simp [Utf8.runeError]

/-- the version of a text: its minor number, and the error -/
def isVersion (l : List UInt8) : Bool := l.length == 8 && (l.take 5 == [72, 84, 84, 80, 47]) && digitB (l.getD 5 0) && (l.getD 6 0 == 46) && digitB (l.getD 7 0)
def http10 : ByteArray := ⟨#[72, 84, 84, 80, 47, 49, 46, 48]⟩
def http11 : ByteArray := ⟨#[72, 84, 84, 80, 47, 49, 46, 49]⟩
def minorB (s : ByteArray) : Int × Int :=
  if seq s http10 then (0, 0) else if seq s http11 then (1, 0) else if isVersion (bl s) then (0, 6) else (0, 2)

theorem minorB_10 {s : ByteArray} (h : seq s http10 = true) : minorB s = (0, 0) := by unfold minorB; rw [if_pos h]
theorem minorB_11 {s : ByteArray} (h0 : seq s http10 = false) (h : seq s http11 = true) : minorB s = (1, 0) := by unfold minorB; rw [if_neg (by simp [h0]), if_pos h]
theorem minorB_un {s : ByteArray} (h0 : seq s http10 = false) (h1 : seq s http11 = false) (h : isVersion (bl s) = true) : minorB s = (0, 6) := by unfold minorB; rw [if_neg (by simp [h0]), if_neg (by simp [h1]), if_pos h]
theorem minorB_no {s : ByteArray} (h0 : seq s http10 = false) (h1 : seq s http11 = false) (h : isVersion (bl s) = false) : minorB s = (0, 2) := by unfold minorB; rw [if_neg (by simp [h0]), if_neg (by simp [h1]), if_neg (by simp [h])]
theorem minorB_ok {s : ByteArray} (h : (minorB s).2 = 0) : (s = http10 ∧ (minorB s).1 = 0) ∨ (s = http11 ∧ (minorB s).1 = 1) := by
  cases h0 : seq s http10 with
  | true => left; exact ⟨(seq_iff _ _).1 h0, by rw [minorB_10 h0]⟩
  | false =>
    cases h1 : seq s http11 with
    | true => right; exact ⟨(seq_iff _ _).1 h1, by rw [minorB_11 h0 h1]⟩
    | false =>
      exfalso
      cases hv : isVersion (bl s) with
      | true => rw [minorB_un h0 h1 hv] at h; simp at h
      | false => rw [minorB_no h0 h1 hv] at h; simp at h
theorem minorB_bd (s : ByteArray) : ((minorB s).1 = 0 ∨ (minorB s).1 = 1) ∧ ((minorB s).2 = 0 ∨ (minorB s).2 = 2 ∨ (minorB s).2 = 6) := by
  unfold minorB
  split
  · simp
  · split
    · simp
    · split <;> simp

/-! ### request lines -/
def parseReq (s : ByteArray) : Option (ByteArray × ByteArray × Int) × Int :=
  match splitS 32 s with
  | [m, t, v] => if token (bl m) && targetB t then (if (minorB v).2 = 0 then (some (m, t, (minorB v).1), 0) else (none, (minorB v).2)) else (none, 2)
  | _ => (none, 2)
theorem parseReq_len {s : ByteArray} {l : List ByteArray} (h : splitS 32 s = l) (hl : l.length ≠ 3) : parseReq s = (none, 2) := by
  unfold parseReq
  rw [h]
  match l, hl with
  | [], _ => rfl
  | [_], _ => rfl
  | [_, _], _ => rfl
  | [_, _, _], hl => exact absurd rfl hl
  | _ :: _ :: _ :: _ :: _, _ => rfl
theorem parseReq_bad {s m t v : ByteArray} (h : splitS 32 s = [m, t, v]) (hb : (token (bl m) && targetB t) = false) : parseReq s = (none, 2) := by
  unfold parseReq; rw [h]; simp only; rw [if_neg (by simp [hb])]
theorem parseReq_ver {s m t v : ByteArray} (h : splitS 32 s = [m, t, v]) (hb : (token (bl m) && targetB t) = true) (hv : (minorB v).2 ≠ 0) : parseReq s = (none, (minorB v).2) := by
  unfold parseReq; rw [h]; simp only; rw [if_pos hb, if_neg hv]
theorem parseReq_ok {s m t v : ByteArray} (h : splitS 32 s = [m, t, v]) (hb : (token (bl m) && targetB t) = true) (hv : (minorB v).2 = 0) : parseReq s = (some (m, t, (minorB v).1), 0) := by
  unfold parseReq; rw [h]; simp only; rw [if_pos hb, if_pos hv]

/-! ### status lines -/
def visible (l : List UInt8) : Bool := l.all visB
/-- the reason: what stands behind the 13th byte -/
def reasonB (s : ByteArray) : ByteArray := if 12 < s.size then s.extract 13 s.size else .empty
def stLine (s : ByteArray) : Bool := decide (12 ≤ s.size) && ((minorB (s.extract 0 8)).2 == 0) && ((bl s).getD 8 0 == 32) && (decide (s.size ≤ 12) || ((bl s).getD 12 0 == 32))
def parseSt (s : ByteArray) : Option (Int × ByteArray × Int) :=
  if stLine s && ((parseN 10 599 (bl (s.extract 9 12))).2 == 0) && decide (100 ≤ (parseN 10 599 (bl (s.extract 9 12))).1) && visible (bl (reasonB s)) then
    some ((parseN 10 599 (bl (s.extract 9 12))).1, reasonB s, (minorB (s.extract 0 8)).1)
  else none
theorem cut_whole {c : UInt8} {l : List UInt8} (h : hasB l c = true) : l = before c l ++ c :: behind c l := by
  induction l with
  | nil => cases h
  | cons x r ih =>
    by_cases hx : x = c
    · simp [before, behind, hx]
    · have h2 : hasB r c = true := by simpa [hasB, hx] using h
      have := ih h2
      unfold before behind at this ⊢
      simp [hx]
      simpa using this
theorem http_no : hasB (bl http10) 32 = false ∧ hasB (bl http11) 32 = false ∧ http10.size = 8 ∧ http11.size = 8 := by decide +kernel
/-- where the text ahead of the first blank is a version -/
theorem st_of {s : ByteArray} (h : hasB (bl s) 32 = true) (hm : (minorB (bs (before 32 (bl s)))).2 = 0) :
    bs (before 32 (bl s)) = s.extract 0 8 ∧ bs (behind 32 (bl s)) = s.extract 9 s.size ∧ (bl s).getD 8 0 = 32 ∧ 8 < s.size := by
  have hl := cut_whole h
  have h8 : (before 32 (bl s)).length = 8 := by
    rcases minorB_ok hm with ⟨e, -⟩ | ⟨e, -⟩
    · rw [← bs_size, e]; exact http_no.2.2.1
    · rw [← bs_size, e]; exact http_no.2.2.2
  have hlen : (bl s).length = 8 + 1 + (behind 32 (bl s)).length := by
    conv => lhs; rw [hl]
    rw [List.length_append, List.length_cons, h8]; omega
  have e1 : (bl s).take 8 = before 32 (bl s) := by
    conv => lhs; rw [hl]
    rw [List.take_left' h8]
  have e2 : (bl s).drop 9 = behind 32 (bl s) := by
    conv => lhs; rw [hl]
    rw [show 9 = 8 + 1 from rfl, ← List.drop_drop, List.drop_left' h8]; rfl
  refine ⟨bl_inj (by rw [bl_bs, bl_extract, List.drop_zero, e1]), bl_inj (by rw [bl_bs, bl_extract, List.take_of_length_le (by rw [bl_length]; exact Nat.le_refl _), e2]), ?_, by rw [← bl_length]; omega⟩
  conv => lhs; rw [hl]
  rw [List.getD_eq_getElem?_getD, List.getElem?_append_right (by omega), h8]; rfl
/-- a status line begins with a version and a blank -/
theorem st_first {s : ByteArray} (h : stLine s = true) : hasB (bl s) 32 = true ∧ (minorB (bs (before 32 (bl s)))).2 = 0 := by
  unfold stLine at h
  simp only [Bool.and_eq_true, decide_eq_true_eq, beq_iff_eq] at h
  obtain ⟨⟨⟨h12, hm⟩, h8⟩, -⟩ := h
  have hk : 8 < (bl s).length := by rw [bl_length]; omega
  have hn : hasB ((bl s).take 8) 32 = false := by
    have e : bl (s.extract 0 8) = (bl s).take 8 := by rw [bl_extract, List.drop_zero]
    rw [← e]
    rcases minorB_ok hm with ⟨e, -⟩ | ⟨e, -⟩
    · rw [e]; exact http_no.1
    · rw [e]; exact http_no.2.1
  have he : (bl s)[8] = 32 := by
    rw [List.getD_eq_getElem?_getD, List.getElem?_eq_getElem hk] at h8
    exact h8
  have hb := before_at 32 (bl s) 8 hk hn he
  refine ⟨hb.1, ?_⟩
  have e : bs (before 32 (bl s)) = s.extract 0 8 := bl_inj (by rw [bl_bs, bl_extract, List.drop_zero, hb.2.1])
  rw [e]; exact hm
theorem stLine_no1 {s : ByteArray} (h : hasB (bl s) 32 = false) : stLine s = false := by
  cases hs : stLine s with
  | false => rfl
  | true => rw [(st_first hs).1] at h; cases h
theorem stLine_no2 {s : ByteArray} (h : (minorB (bs (before 32 (bl s)))).2 ≠ 0) : stLine s = false := by
  cases hs : stLine s with
  | false => rfl
  | true => exact absurd (st_first hs).2 h
theorem parseSt_no {s : ByteArray} (h : stLine s = false) : parseSt s = none := by unfold parseSt; rw [h]; rfl
end Go.Own

/-! Plain laws on start lines that were formatted, and are parsed again. No program stands here. -/
namespace Go.Own
set_option linter.unusedVariables false

/-- "HTTP/1." -/
def httpB : ByteArray := ⟨#[72, 84, 84, 80, 47, 49, 46]⟩
def okReq (m t : ByteArray) (n : Int) : Bool := token (bl m) && targetB t && decide (0 ≤ n) && decide (n ≤ 1)
def fmtReq (m t : ByteArray) (n : Int) : ByteArray := if okReq m t n then bs (bl m ++ 32 :: (bl t ++ 32 :: (bl httpB ++ digs 10 n.toNat))) else .empty
def okSt (st : Int) (r : ByteArray) (n : Int) : Bool := decide (100 ≤ st) && decide (st ≤ 599) && decide (0 ≤ n) && decide (n ≤ 1) && visible (bl r)
def fmtSt (st : Int) (r : ByteArray) (n : Int) : ByteArray := if okSt st r n then bs (bl httpB ++ (digs 10 n.toNat ++ 32 :: (digs 10 st.toNat ++ 32 :: bl r))) else .empty

theorem digs3 {n : Nat} (h1 : 100 ≤ n) (h2 : n < 1000) : digs 10 n = [hexD (n / 100), hexD (n / 10 % 10), hexD (n % 10)] := by
  rw [digs_step (n := n) (by omega) (by omega), digs_step (n := n / 10) (by omega) (by omega), digs_small (by omega)]
  simp [Nat.div_div_eq_div_mul]
theorem digV_hexD : ∀ d, d < 10 → digV (hexD d) = (d : Int) := by decide +kernel
theorem digs0 : digs 10 0 = [48] := by rw [digs_small (by omega)]; decide
theorem digs1 : digs 10 1 = [49] := by rw [digs_small (by omega)]; decide
theorem parseN_digs {n : Nat} (h1 : 100 ≤ n) (h2 : n ≤ 599) : parseN 10 599 (digs 10 n) = ((n : Int), 0) := by
  rw [digs3 h1 (by omega)]
  have a := digV_hexD (n / 100) (by omega)
  have b := digV_hexD (n / 10 % 10) (by omega)
  have c := digV_hexD (n % 10) (by omega)
  refine parseN_some ?_ (by simp) ?_
  · simp only [badN, List.any_cons, List.any_nil, a, b, c]
    simp only [Bool.or_false, Bool.or_eq_false_iff, decide_eq_false_iff_not]
    omega
  · simp only [accN, a, b, c]
    rw [if_neg (by omega), if_neg (by omega), if_neg (by omega)]
    congr 1
    omega
theorem token_no32 {l : List UInt8} (h : token l = true) : hasB l 32 = false := by
  have ht : tchar 32 = false := by decide +kernel
  simp only [token, Bool.and_eq_true, List.all_eq_true] at h
  cases hh : hasB l 32 with
  | false => rfl
  | true =>
    obtain ⟨x, hx, he⟩ := List.any_eq_true.1 hh
    have := h.1 x hx
    rw [beq_iff_eq.1 he, ht] at this
    cases this
theorem target_no32 {s : ByteArray} (h : targetB s = true) : hasB (bl s) 32 = false := by
  have ht : targetC 32 = false := by decide +kernel
  simp only [targetB, Bool.and_eq_true, List.all_eq_true] at h
  cases hh : hasB (bl s) 32 with
  | false => rfl
  | true =>
    obtain ⟨x, hx, he⟩ := List.any_eq_true.1 hh
    have := h.1 x hx
    rw [beq_iff_eq.1 he, ht] at this
    cases this
theorem okReq_of {m t : ByteArray} {n : Int} (h : okReq m t n = true) : token (bl m) = true ∧ targetB t = true ∧ (n = 0 ∨ n = 1) := by
  simp only [okReq, Bool.and_eq_true, decide_eq_true_eq] at h
  exact ⟨h.1.1.1, h.1.1.2, by omega⟩
theorem http_digs {n : Int} (h : n = 0 ∨ n = 1) : hasB (bl httpB ++ digs 10 n.toNat) 32 = false ∧ minorB (bs (bl httpB ++ digs 10 n.toNat)) = (n, 0) := by
  rcases h with rfl | rfl
  · rw [show (0 : Int).toNat = 0 from rfl, digs0]
    exact ⟨by decide +kernel, minorB_10 (by decide +kernel)⟩
  · rw [show (1 : Int).toNat = 1 from rfl, digs1]
    exact ⟨by decide +kernel, minorB_11 (by decide +kernel) (by decide +kernel)⟩
/-- a request's line is parsed to the same method, target and version -/
theorem parse_fmtReq {m t : ByteArray} {n : Int} (h : okReq m t n = true) : parseReq (fmtReq m t n) = (some (m, t, n), 0) := by
  obtain ⟨h1, h2, h3⟩ := okReq_of h
  obtain ⟨h4, h5⟩ := http_digs h3
  have hs : splitS 32 (fmtReq m t n) = [m, t, bs (bl httpB ++ digs 10 n.toNat)] := by
    unfold fmtReq
    rw [if_pos h, splitS, bl_bs, splitBy_append, splitBy_append, splitBy_end _ _ (token_no32 h1), splitBy_end _ _ (target_no32 h2), splitBy_end _ _ h4]
    simp [bs_bl]
  rw [parseReq_ok hs (by rw [h1, h2]; rfl) (by rw [h5]), h5]
theorem fmtReq_size (m t : ByteArray) (n : Int) : (fmtReq m t n).size ≤ m.size + t.size + 10 := by
  unfold fmtReq
  split
  · rename_i h
    obtain ⟨h1, h2, h3⟩ := okReq_of h
    have : (digs 10 n.toNat).length = 1 := by
      rcases h3 with rfl | rfl
      · rw [show (0 : Int).toNat = 0 from rfl, digs0]; rfl
      · rw [show (1 : Int).toNat = 1 from rfl, digs1]; rfl
    rw [bs_size]
    simp only [List.length_append, List.length_cons, bl_length, this]
    have : httpB.size = 7 := rfl
    omega
  · simp
theorem okSt_of {st n : Int} {r : ByteArray} (h : okSt st r n = true) : (100 ≤ st ∧ st ≤ 599) ∧ (n = 0 ∨ n = 1) ∧ visible (bl r) = true := by
  simp only [okSt, Bool.and_eq_true, decide_eq_true_eq] at h
  exact ⟨⟨h.1.1.1.1, h.1.1.1.2⟩, by omega, h.2⟩
theorem fmtSt_bl {st n : Int} {r : ByteArray} (h : okSt st r n = true) : ∃ k : Nat, st = k ∧ 100 ≤ k ∧ k ≤ 599 ∧ ∃ v : UInt8, (v = 48 ∧ n = 0 ∨ v = 49 ∧ n = 1) ∧
    bl (fmtSt st r n) = 72 :: 84 :: 84 :: 80 :: 47 :: 49 :: 46 :: v :: 32 :: hexD (k / 100) :: hexD (k / 10 % 10) :: hexD (k % 10) :: 32 :: bl r := by
  obtain ⟨⟨h1, h2⟩, h3, h4⟩ := okSt_of h
  refine ⟨st.toNat, by omega, by omega, by omega, ?_⟩
  unfold fmtSt
  rw [if_pos h, bl_bs, digs3 (n := st.toNat) (by omega) (by omega)]
  rcases h3 with rfl | rfl
  · refine ⟨48, Or.inl ⟨rfl, rfl⟩, ?_⟩
    rw [show (0 : Int).toNat = 0 from rfl, digs0]; rfl
  · refine ⟨49, Or.inr ⟨rfl, rfl⟩, ?_⟩
    rw [show (1 : Int).toNat = 1 from rfl, digs1]; rfl
/-- a reply's line is parsed to the same status, reason and version -/
theorem parse_fmtSt {st n : Int} {r : ByteArray} (h : okSt st r n = true) : parseSt (fmtSt st r n) = some (st, r, n) := by
  obtain ⟨k, hk, k1, k2, v, hv, hb⟩ := fmtSt_bl h
  have hvis := (okSt_of h).2.2
  have hsz : (fmtSt st r n).size = r.size + 13 := by rw [← bl_length, hb, ← bl_length r]; rfl
  have e8 : bl ((fmtSt st r n).extract 0 8) = [72, 84, 84, 80, 47, 49, 46, v] := by rw [bl_extract, hb]; rfl
  have e12 : bl ((fmtSt st r n).extract 9 12) = digs 10 k := by rw [bl_extract, hb, digs3 k1 (by omega)]; rfl
  have er : reasonB (fmtSt st r n) = r := by
    unfold reasonB
    rw [if_pos (by omega)]
    refine bl_inj ?_
    rw [bl_extract, hb, List.take_of_length_le (by rw [hsz]; simp [bl_length])]
    rfl
  have em : minorB ((fmtSt st r n).extract 0 8) = (n, 0) := by
    rcases hv with ⟨rfl, rfl⟩ | ⟨rfl, rfl⟩
    · rw [show (fmtSt st r 0).extract 0 8 = http10 from bl_inj e8]; exact minorB_10 (seq_self _)
    · rw [show (fmtSt st r 1).extract 0 8 = http11 from bl_inj e8]; exact minorB_11 (by decide +kernel) (seq_self _)
  have eN := parseN_digs k1 k2
  rw [← e12] at eN
  have hl : stLine (fmtSt st r n) = true := by
    unfold stLine
    rw [em, hb, hsz]
    simp
  have k3 : decide (100 ≤ (k : Int)) = true := decide_eq_true (by omega)
  unfold parseSt
  rw [hl, eN, er, hvis, em, hk]
  simp only [k3]
  rfl
theorem fmtSt_no {st n : Int} {r : ByteArray} (h : okSt st r n = false) : fmtSt st r n = .empty := by unfold fmtSt; rw [h]; rfl
theorem fmtReq_no {m t : ByteArray} {n : Int} (h : okReq m t n = false) : fmtReq m t n = .empty := by unfold fmtReq; rw [h]; rfl
theorem parseSt_empty : parseSt .empty = none := parseSt_no (by decide +kernel)
theorem fmtSt_ne {st n : Int} {r : ByteArray} (h : okSt st r n = true) : fmtSt st r n ≠ .empty := by
  obtain ⟨k, hk, k1, k2, v, hv, hb⟩ := fmtSt_bl h
  intro e
  rw [e] at hb
  cases hb
theorem fmtSt_size (st n : Int) (r : ByteArray) : (fmtSt st r n).size ≤ r.size + 13 := by
  cases h : okSt st r n with
  | false => rw [fmtSt_no h]; simp
  | true =>
    obtain ⟨k, hk, k1, k2, v, hv, hb⟩ := fmtSt_bl h
    rw [← bl_length, hb, ← bl_length r]
    exact Nat.le_refl _

/-! ### a status line behind its first blank -/
def reasonR (r : ByteArray) : ByteArray := if 3 < r.size then r.extract 4 r.size else .empty
def okRest (r : ByteArray) : Bool := decide (3 ≤ r.size) && (decide (r.size ≤ 3) || ((bl r).getD 3 0 == 32)) && ((parseN 10 599 (bl (r.extract 0 3))).2 == 0) && decide (100 ≤ (parseN 10 599 (bl (r.extract 0 3))).1) && visible (bl (reasonR r))
def stRest (r : ByteArray) (n : Int) : Option (Int × ByteArray × Int) :=
  if okRest r then some ((parseN 10 599 (bl (r.extract 0 3))).1, reasonR r, n) else none
theorem stRest_no {r : ByteArray} {n : Int} (h : okRest r = false) : stRest r n = none := by unfold stRest; rw [h]; rfl
theorem stRest_short {r : ByteArray} {n : Int} (h : r.size < 3) : stRest r n = none := stRest_no (by unfold okRest; rw [decide_eq_false (by omega)]; rfl)
theorem stRest_sp {r : ByteArray} {n : Int} (h : 3 < r.size) (h2 : (bl r)[3]'(by rw [bl_length]; exact h) ≠ 32) : stRest r n = none := stRest_no (by
  unfold okRest
  rw [List.getD_eq_getElem?_getD, List.getElem?_eq_getElem (by rw [bl_length]; exact h), decide_eq_false (show ¬ r.size ≤ 3 by omega)]
  simp [h2])
theorem stRest_num {r : ByteArray} {n : Int} (h : (parseN 10 599 (bl (r.extract 0 3))).2 ≠ 0) : stRest r n = none := stRest_no (by
  unfold okRest; rw [show ((parseN 10 599 (bl (r.extract 0 3))).2 == 0) = false by simpa using h]; simp)
theorem stRest_low {r : ByteArray} {n : Int} (h : (parseN 10 599 (bl (r.extract 0 3))).1 < 100) : stRest r n = none := stRest_no (by
  unfold okRest; rw [decide_eq_false (show ¬ 100 ≤ (parseN 10 599 (bl (r.extract 0 3))).1 by omega)]; simp)
theorem stRest_vis {r : ByteArray} {n : Int} (h : visible (bl (reasonR r)) = false) : stRest r n = none := stRest_no (by unfold okRest; rw [h]; simp)
theorem stRest_ok {r : ByteArray} {n : Int} (h : 3 ≤ r.size) (h2 : r.size = 3 ∨ ∃ h : 3 < r.size, (bl r)[3]'(by rw [bl_length]; exact h) = 32) (h3 : (parseN 10 599 (bl (r.extract 0 3))).2 = 0) (h4 : ¬ (parseN 10 599 (bl (r.extract 0 3))).1 < 100) (h5 : visible (bl (reasonR r)) = true) :
    stRest r n = some ((parseN 10 599 (bl (r.extract 0 3))).1, reasonR r, n) := by
  have : okRest r = true := by
    unfold okRest
    rw [h3, h5, decide_eq_true h, decide_eq_true (show 100 ≤ (parseN 10 599 (bl (r.extract 0 3))).1 by omega)]
    rcases h2 with e | ⟨e, e2⟩
    · rw [decide_eq_true (show r.size ≤ 3 by omega)]; rfl
    · rw [List.getD_eq_getElem?_getD, List.getElem?_eq_getElem (by rw [bl_length]; exact e), e2]; simp
  unfold stRest; rw [this]; rfl
theorem parseSt_rest {s : ByteArray} (h : hasB (bl s) 32 = true) (hm : (minorB (bs (before 32 (bl s)))).2 = 0) : parseSt s = stRest (bs (behind 32 (bl s))) (minorB (bs (before 32 (bl s)))).1 := by
  obtain ⟨e1, e2, e3, e4⟩ := st_of h hm
  rw [e1] at hm ⊢
  rw [e2]
  have z : (s.extract 9 s.size).size = s.size - 9 := by simp [ByteArray.size_extract]
  have x3 : (s.extract 9 s.size).extract 0 3 = s.extract 9 12 := bl_inj (by rw [bl_extract, bl_extract, bl_extract, List.take_of_length_le (Nat.le_of_eq (bl_length s)), List.drop_zero, List.take_drop])
  have g3 : (bl (s.extract 9 s.size)).getD 3 0 = (bl s).getD 12 0 := by
    rw [bl_extract, List.take_of_length_le (Nat.le_of_eq (bl_length s)), List.getD_eq_getElem?_getD, List.getElem?_drop, ← List.getD_eq_getElem?_getD]
  have hr : 12 ≤ s.size → reasonR (s.extract 9 s.size) = reasonB s := by
    intro h12
    unfold reasonR reasonB
    rw [z]
    by_cases c : 12 < s.size
    · rw [if_pos (by omega), if_pos c]
      refine bl_inj ?_
      rw [bl_extract, bl_extract, bl_extract, List.take_of_length_le (Nat.le_of_eq (bl_length s)), List.take_of_length_le (by rw [List.length_drop, bl_length]; omega), List.drop_drop]
    · rw [if_neg (by omega), if_neg c]
  by_cases h12 : 12 ≤ s.size
  · have : okRest (s.extract 9 s.size) = (stLine s && ((parseN 10 599 (bl (s.extract 9 12))).2 == 0) && decide (100 ≤ (parseN 10 599 (bl (s.extract 9 12))).1) && visible (bl (reasonB s))) := by
      unfold okRest stLine
      rw [z, x3, g3, hm, e3, hr h12, decide_eq_true h12, decide_eq_true (show 3 ≤ s.size - 9 by omega)]
      by_cases c : s.size ≤ 12
      · rw [decide_eq_true c, decide_eq_true (show s.size - 9 ≤ 3 by omega)]; simp
      · rw [decide_eq_false c, decide_eq_false (show ¬ s.size - 9 ≤ 3 by omega)]; simp
    unfold parseSt stRest
    rw [this, x3, hr h12]
  · rw [stRest_short (by omega), parseSt_no (by unfold stLine; rw [decide_eq_false h12]; rfl)]
end Go.Own
