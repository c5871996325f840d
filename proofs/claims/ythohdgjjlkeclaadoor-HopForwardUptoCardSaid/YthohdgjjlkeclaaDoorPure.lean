/- The plain functions that the program's layers compute: character classes, trimming, lists. No program stands here. -/
import Derived.Test.YthohdgjjlkeclaaDoorLib
import Derived.Lib.Bytealg
import Derived.Lib.IndexBytes
namespace Go.Own

/-- the bytes of a string, and back -/
def bl (s : ByteArray) : List UInt8 := s.data.toList
def bs (l : List UInt8) : ByteArray := ⟨l.toArray⟩
theorem bl_bs (l : List UInt8) : bl (bs l) = l := rfl
theorem bs_bl (s : ByteArray) : bs (bl s) = s := by cases s; simp [bs, bl]
theorem bl_length (s : ByteArray) : (bl s).length = s.size := (size_toList s).symm
theorem bs_size (l : List UInt8) : (bs l).size = l.length := by rw [← bl_length]; rfl
theorem bl_inj {s t : ByteArray} (h : bl s = bl t) : s = t := by rw [← bs_bl s, h, bs_bl]
theorem bl_get (s : ByteArray) (k : Nat) (h : k < s.size) : s[k] = (bl s)[k]'(by rw [bl_length]; exact h) := rfl
theorem bs_eq (s : ByteArray) : (⟨s.data.toList.toArray⟩ : ByteArray) = s := bs_bl s

/-- equality of strings, as the walk writes it -/
def seq (a b : ByteArray) : Bool := a.toList == b.toList
theorem toList_bl (a : ByteArray) : a.toList = bl a := ByteArray.toList_eq a
theorem seq_iff (a b : ByteArray) : seq a b = true ↔ a = b := by
  unfold seq; rw [beq_iff_eq, toList_bl, toList_bl]; exact ⟨bl_inj, fun h => by rw [h]⟩
theorem seq_self (a : ByteArray) : seq a a = true := (seq_iff a a).2 rfl
theorem seq_ne {a b : ByteArray} (h : a ≠ b) : seq a b = false := by
  cases e : seq a b with
  | false => rfl
  | true => exact absurd ((seq_iff a b).1 e) h
theorem seq_eq (a b : ByteArray) : seq a b = (bl a == bl b) := by unfold seq; rw [toList_bl, toList_bl]

theorem size1 (c : UInt8) : (⟨#[c]⟩ : ByteArray).size = 1 := rfl
theorem size1' (c : UInt8) : (⟨[c].toArray⟩ : ByteArray).size = 1 := rfl

/-! ### classes of bytes -/
def low1 (c : UInt8) : UInt8 := if 65 ≤ c.toNat ∧ c.toNat ≤ 90 then c + 32 else c
def lower (l : List UInt8) : List UInt8 := l.map low1
def lowerB (s : ByteArray) : ByteArray := bs (lower (bl s))
def foldB (a b : ByteArray) : Bool := seq (lowerB a) (lowerB b)
def digitB (c : UInt8) : Bool := decide (48 ≤ c.toNat) && decide (c.toNat ≤ 57)
def letterB (c : UInt8) : Bool := decide (65 ≤ c.toNat) && decide (c.toNat ≤ 90) || decide (97 ≤ c.toNat) && decide (c.toNat ≤ 122) || digitB c
def specials : List UInt8 := [33, 35, 36, 37, 38, 39, 42, 43, 45, 46, 94, 95, 96, 124, 126]
def specialB (c : UInt8) : Bool := specials.any fun x => x == c
def tchar (c : UInt8) : Bool := letterB c || specialB c
def token (l : List UInt8) : Bool := l.all tchar && !l.isEmpty
def blankB (c : UInt8) : Bool := c.toNat == 32 || c.toNat == 9
def visB (c : UInt8) : Bool := !(decide (c.toNat < 32) && !(c.toNat == 9) || c.toNat == 127)
def trimL (l : List UInt8) : List UInt8 := l.dropWhile blankB
def trimR (l : List UInt8) : List UInt8 := (l.reverse.dropWhile blankB).reverse
def trim (l : List UInt8) : List UInt8 := trimR (trimL l)
def trimB (s : ByteArray) : ByteArray := bs (trim (bl s))
def value (l : List UInt8) : Bool := l.all visB && (trim l == l)

theorem lower_length (l : List UInt8) : (lower l).length = l.length := List.length_map ..
theorem lowerB_size (s : ByteArray) : (lowerB s).size = s.size := by rw [lowerB, bs_size, lower_length, bl_length]
theorem low1_up {c : UInt8} (h : 65 ≤ c.toNat ∧ c.toNat ≤ 90) : ((low1 c).toNat : Int) = (c.toNat : Int) + 32 := by
  unfold low1; rw [if_pos h, UInt8.toNat_add]; simp; omega
theorem low1_no {c : UInt8} (h : ¬ (65 ≤ c.toNat ∧ c.toNat ≤ 90)) : low1 c = c := if_neg h
theorem low1_low1 (c : UInt8) : low1 (low1 c) = low1 c := by
  unfold low1
  by_cases h : 65 ≤ c.toNat ∧ c.toNat ≤ 90
  · rw [if_pos h]
    have e : (c + 32).toNat = c.toNat + 32 := by rw [UInt8.toNat_add]; simp; omega
    rw [if_neg (by omega)]
  · rw [if_neg h, if_neg h]
theorem lower_lower (l : List UInt8) : lower (lower l) = lower l := by
  unfold lower; rw [List.map_map]; exact List.map_congr_left fun c _ => low1_low1 c
theorem lowerB_lowerB (s : ByteArray) : lowerB (lowerB s) = lowerB s := by unfold lowerB; rw [bl_bs, lower_lower]

/-! ### Lower in place: after k rounds the first k bytes are lowered -/
theorem lower_cell {w : World} {g : Nat} {l : List UInt8} {k : Nat} (h : MutC w g (bytesV (lower (l.take k) ++ l.drop k))) (hk : k < l.length) :
    w.cell? ⟨g, k, none⟩ = some (.int .u8 (l[k].toNat : Int)) ∧ w.frozen? ⟨g, k, none⟩ = false := by
  have hl : (lower (l.take k)).length = k := by rw [lower_length, List.length_take]; omega
  have := h k (by rw [bytesV_length, List.length_append, hl, List.length_drop]; omega)
  refine ⟨?_, this.2⟩
  rw [this.1]
  simp [bytesV, byteV, hl]
theorem lower_keep {l : List UInt8} {k : Nat} (hk : k < l.length) (h : low1 l[k] = l[k]) : lower (l.take (k + 1)) ++ l.drop (k + 1) = lower (l.take k) ++ l.drop k := by
  have e : l.drop k = l[k] :: l.drop (k + 1) := List.drop_eq_getElem_cons hk
  rw [List.take_succ_eq_append_getElem hk, e, lower, lower, List.map_append, List.append_assoc, List.map_cons, List.map_nil, h]; rfl
theorem lower_change {l : List UInt8} {k : Nat} (hk : k < l.length) : lower (l.take (k + 1)) ++ l.drop (k + 1) = (lower (l.take k) ++ l.drop k).set k (low1 l[k]) := by
  have hl : (lower (l.take k)).length = k := by rw [lower_length, List.length_take]; omega
  have e : l.drop k = l[k] :: l.drop (k + 1) := List.drop_eq_getElem_cons hk
  rw [List.take_succ_eq_append_getElem hk, e, List.set_append, if_neg (by omega), hl, Nat.sub_self, List.set_cons_zero, lower, lower, List.map_append, List.append_assoc]; rfl
theorem lower_next {w : World} {g : Nat} {l : List UInt8} {k : Nat} (h : MutC w g (bytesV (lower (l.take k) ++ l.drop k))) (hk : k < l.length) :
    (low1 l[k] = l[k] → MutC w g (bytesV (lower (l.take (k + 1)) ++ l.drop (k + 1)))) ∧ MutC (w.setCell ⟨g, k, none⟩ (.int .u8 ((low1 l[k]).toNat : Int))) g (bytesV (lower (l.take (k + 1)) ++ l.drop (k + 1))) := by
  have hl : (lower (l.take k)).length = k := by rw [lower_length, List.length_take]; omega
  refine ⟨fun he => by rw [lower_keep hk he]; exact h, ?_⟩
  have := h.set k (by rw [bytesV_length, List.length_append, hl, List.length_drop]; omega) (.int .u8 ((low1 l[k]).toNat : Int))
  rw [lower_change hk]
  rw [bytesV, List.map_set]
  exact this

/-! ### one step of a search from the left -/
theorem all_take_succ {p : UInt8 → Bool} (l : List UInt8) (k : Nat) (h : k < l.length) (ht : (l.take k).all p = true) (hp : p l[k] = true) : (l.take (k + 1)).all p = true := by
  rw [List.take_succ_eq_append_getElem h, List.all_append, ht]; simp [hp]
theorem all_fails {p : UInt8 → Bool} (l : List UInt8) (k : Nat) (h : k < l.length) (hp : p l[k] = false) : l.all p = false := by
  rw [List.all_eq_false]; exact ⟨l[k], List.getElem_mem h, by simp [hp]⟩
theorem all_full {p : UInt8 → Bool} (l : List UInt8) (k : Nat) (h : l.length ≤ k) (ht : (l.take k).all p = true) : l.all p = true := by
  rwa [List.take_of_length_le h] at ht

/-- c is among l -/
def hasB (l : List UInt8) (c : UInt8) : Bool := l.any fun x => x == c
theorem hasB_at (l : List UInt8) (k : Nat) (h : k < l.length) {c : UInt8} (he : l[k] = c) : hasB l c = true := by
  unfold hasB; rw [List.any_eq_true]; exact ⟨l[k], List.getElem_mem h, by simp [he]⟩
theorem hasB_succ (l : List UInt8) (k : Nat) (h : k < l.length) {c : UInt8} (ht : hasB (l.take k) c = false) (he : l[k] ≠ c) : hasB (l.take (k + 1)) c = false := by
  unfold hasB at ht ⊢
  rw [List.take_succ_eq_append_getElem h, List.any_append, ht]; simp [he]
theorem hasB_full (l : List UInt8) (k : Nat) (h : l.length ≤ k) {c : UInt8} (ht : hasB (l.take k) c = false) : hasB l c = false := by rwa [List.take_of_length_le h] at ht
/-- a byte of a string, under one name -/
theorem byte_split (s : ByteArray) (k : Nat) (h : k < s.size) : ∃ x, (bl s)[k]'(by rw [bl_length]; exact h) = x ∧ s[k]'h = x := ⟨_, rfl, rfl⟩
theorem indexByte_miss {l : List UInt8} {c : UInt8} (h : (l.any fun x => x == c) = false) : Lib.indexByte l c = -1 := by
  induction l with
  | nil => rfl
  | cons b l ih =>
    simp only [List.any_cons, Bool.or_eq_false_iff] at h
    unfold Lib.indexByte
    rw [if_neg (by simp [h.1]), ih h.2]; rfl
theorem indexByte_hit {l : List UInt8} {c : UInt8} (h : (l.any fun x => x == c) = true) : 0 ≤ Lib.indexByte l c := by
  induction l with
  | nil => cases h
  | cons b l ih =>
    unfold Lib.indexByte
    split
    · decide
    · rename_i hb
      have h' : (l.any fun x => x == c) = true := by
        simp only [List.any_cons, Bool.or_eq_true] at h
        rcases h with h | h
        · exact absurd h hb
        · exact h
      have := ih h'
      split
      · rename_i e; rw [beq_iff_eq] at e; omega
      · omega
theorem token_no {l : List UInt8} (h : l.all tchar = false) : token l = false := by unfold token; rw [h]; rfl
theorem token_end {l : List UInt8} (h : l.all tchar = true) : token l = !l.isEmpty := by unfold token; rw [h]; rfl
/-! ### Trim, byte by byte -/
def strSize : Value → Nat | .string t => t.size | _ => 0
theorem bl_extract (t : ByteArray) (a b : Nat) : bl (t.extract a b) = ((bl t).take b).drop a := by
  unfold bl; rw [Lib.extract_data, List.drop_take]
theorem size_zero_nil {t : ByteArray} (h : t.size = 0) : bl t = [] := List.eq_nil_of_length_eq_zero (by rw [bl_length]; exact h)
theorem trimL_blank (l : List UInt8) (h : 0 < l.length) (hb : blankB l[0] = true) : trimL (l.drop 1) = trimL l := by
  cases l with
  | nil => cases h
  | cons c l => simp only [List.getElem_cons_zero] at hb; simp [trimL, hb]
theorem trimL_stop (l : List UInt8) (h : 0 < l.length) (hb : blankB l[0] = false) : trimL l = l := by
  cases l with
  | nil => cases h
  | cons c l => simp only [List.getElem_cons_zero] at hb; simp [trimL, hb]
theorem last_split {l : List UInt8} {m : Nat} (h : l.length = m + 1) : ∃ r c, l = r ++ [c] ∧ l.take m = r ∧ l[m] = c := by
  refine ⟨l.take m, l[m], ?_, rfl, rfl⟩
  rw [← List.take_succ_eq_append_getElem (by omega), List.take_of_length_le (by omega)]
theorem trimR_blank (l : List UInt8) (m : Nat) (h : l.length = m + 1) (hb : blankB l[m] = true) : trimR (l.take m) = trimR l := by
  obtain ⟨r, c, h1, h2, h3⟩ := last_split h
  rw [h2, h1]; rw [h3] at hb
  simp [trimR, List.reverse_append, hb]
theorem trimR_stop (l : List UInt8) (m : Nat) (h : l.length = m + 1) (hb : blankB l[m] = false) : trimR l = l := by
  obtain ⟨r, c, h1, h2, h3⟩ := last_split h
  rw [h1]; rw [h3] at hb
  simp [trimR, List.reverse_append, hb]
theorem trimL_step (t : ByteArray) (h : 0 < t.size) (hb : blankB ((bl t)[0]'(by rw [bl_length]; exact h)) = true) : trimL (bl (t.extract 1 t.size)) = trimL (bl t) := by
  rw [bl_extract, List.take_of_length_le (by rw [bl_length]; exact Nat.le_refl _)]
  exact trimL_blank _ _ hb
theorem trim_mid (t s : ByteArray) (h : t.size = 0 ∨ ∃ h : 0 < t.size, blankB ((bl t)[0]'(by rw [bl_length]; exact h)) = false) (ht : trimL (bl t) = trimL (bl s)) : trimR (bl t) = trim (bl s) := by
  have e : trimL (bl t) = bl t := by
    rcases h with h | ⟨h, hb⟩
    · rw [size_zero_nil h]; rfl
    · exact trimL_stop _ _ hb
  rw [trim, ← ht, e]
theorem trimR_step (u : ByteArray) (m : Nat) (h : u.size = m + 1) (hb : blankB ((bl u)[m]'(by rw [bl_length, h]; omega)) = true) : trimR (bl (u.extract 0 m)) = trimR (bl u) := by
  rw [bl_extract, List.drop_zero]
  exact trimR_blank _ _ (by rw [bl_length, h]) hb
theorem trim_done (u s : ByteArray) (h : u.size = 0 ∨ ∃ m, ∃ h : u.size = m + 1, blankB ((bl u)[m]'(by rw [bl_length, h]; omega)) = false) (ht : trimR (bl u) = trim (bl s)) : u = trimB s := by
  have e : trimR (bl u) = bl u := by
    rcases h with h | ⟨m, h, hb⟩
    · rw [size_zero_nil h]; rfl
    · exact trimR_stop _ m (by rw [bl_length, h]) hb
  rw [trimB, ← ht, e, bs_bl]
theorem value_no {l : List UInt8} (h : l.all visB = false) : false = value l := by unfold value; rw [h]; rfl
theorem value_end {s : ByteArray} (h : (bl s).all visB = true) : ((trimB s).toList == s.toList) = value (bl s) := by
  rw [value, h, toList_bl, toList_bl, trimB, bl_bs]; rfl
theorem dropWhile_dropWhile (p : UInt8 → Bool) (l : List UInt8) : (l.dropWhile p).dropWhile p = l.dropWhile p := by
  induction l with
  | nil => rfl
  | cons x r ih =>
    by_cases h : p x = true
    · simp [h, ih]
    · simp [h]
theorem trimR_trimR (l : List UInt8) : trimR (trimR l) = trimR l := by simp [trimR, dropWhile_dropWhile]
theorem trimL_snoc_blank (l : List UInt8) (c : UInt8) (h : blankB c = true) : trimR (trimL (l ++ [c])) = trimR (trimL l) := by
  induction l with
  | nil => simp [trimL, h]
  | cons x r ih =>
    by_cases hx : blankB x = true
    · simpa [trimL, List.dropWhile_cons, hx] using ih
    · simp only [trimL, List.cons_append, List.dropWhile_cons, hx]
      simp [trimR, h]
theorem trim_snoc (l : List UInt8) (c : UInt8) (h : blankB c = true) : trim (l ++ [c]) = trim l := trimL_snoc_blank l c h
theorem trim_cons (l : List UInt8) (c : UInt8) (h : blankB c = true) : trim (c :: l) = trim l := by simp [trim, trimL, h]
/-- what is trimmed begins with no blank -/
theorem trimL_trimR (l : List UInt8) (h : trimL l = l) : trimL (trimR l) = trimR l := by
  cases l with
  | nil => rfl
  | cons x r =>
    by_cases hx : blankB x = true
    · exfalso
      have h2 : (trimL (x :: r)).length ≤ r.length := by
        simp only [trimL, List.dropWhile_cons, hx, if_true]
        exact (List.dropWhile_suffix _).length_le
      rw [h] at h2; simp at h2; omega
    · have e : ∃ t, trimR (x :: r) = x :: t := by
        unfold trimR
        rw [List.reverse_cons]
        generalize r.reverse = q
        induction q with
        | nil => exact ⟨[], by simp [hx]⟩
        | cons y q ih =>
          rw [List.cons_append, List.dropWhile_cons]
          split
          · exact ih
          · exact ⟨(y :: q).reverse, by simp⟩
      obtain ⟨t, e⟩ := e
      rw [e]; simp [trimL, hx]
theorem trim_trim (l : List UInt8) : trim (trim l) = trim l := by
  unfold trim
  rw [trimL_trimR _ (by unfold trimL; exact dropWhile_dropWhile _ _), trimR_trimR]
theorem trimB_trimB (s : ByteArray) : trimB (trimB s) = trimB s := by unfold trimB; rw [bl_bs, trim_trim]
theorem bl_append (a b : ByteArray) : bl (a ++ b) = bl a ++ bl b := by simp [bl]
theorem trimB_size (s : ByteArray) : (trimB s).size ≤ s.size := by
  rw [trimB, bs_size, ← bl_length]
  unfold trim trimR trimL
  rw [List.length_reverse]
  refine Nat.le_trans (List.dropWhile_suffix _).length_le ?_
  rw [List.length_reverse]
  exact (List.dropWhile_suffix _).length_le
theorem byte_ne {a b : UInt8} (h : a ≠ b) : ((a.toNat : Int) == (b.toNat : Int)) = false := by
  rw [beq_eq_false_iff_ne]
  exact fun e => h (UInt8.toNat_inj.1 (by omega))

end Go.Own
