/- Plain laws on numerals: digits in a base, hexadecimal words of a fixed width. No program stands here. -/
import Derived.Test.YthohdgjjlkeclaaDoorPure
import Derived.Lib.ItoaNum
import Derived.Lib.Repeat
namespace Go.Own
set_option linter.unusedVariables false

/-- the digit d -/
def hexD (d : Nat) : UInt8 := if d < 10 then UInt8.ofNat (48 + d) else UInt8.ofNat (87 + d)
/-- n's numeral in base b -/
def digs (b n : Nat) : List UInt8 :=
  if h : n < b ∨ b < 2 then [hexD n] else digs b (n / b) ++ [hexD (n % b)]
termination_by n
decreasing_by
  have : b ≤ n ∧ 2 ≤ b := by omega
  exact Nat.div_lt_self (by omega) (by omega)
theorem digs_small {b n : Nat} (h : n < b) : digs b n = [hexD n] := by rw [digs, dif_pos (Or.inl h)]
theorem digs_step {b n : Nat} (hb : 2 ≤ b) (h : b ≤ n) : digs b n = digs b (n / b) ++ [hexD (n % b)] := by
  conv => lhs; rw [digs]
  rw [dif_neg (by omega)]
theorem digs_ten (n : Nat) : digs 10 n = Lib.decDigits n := by
  induction n using Nat.strongRecOn with
  | ind n ih =>
    rw [Lib.decDigits]
    by_cases h : n < 10
    · rw [digs_small h, dif_pos h]
      unfold hexD; rw [if_pos h]
    · rw [digs_step (by omega) (by omega), dif_neg h, ih (n / 10) (by omega)]
      unfold hexD; rw [if_pos (by omega)]
theorem digs_length_le (b n k : Nat) (hb : 2 ≤ b) (h : n < b ^ (k + 1)) : (digs b n).length ≤ k + 1 := by
  induction k generalizing n with
  | zero => rw [digs_small (by simpa using h)]; simp
  | succ k ih =>
    by_cases hn : n < b
    · rw [digs_small hn]; simp
    · rw [digs_step hb (by omega), List.length_append]
      have := ih (n / b) (by rw [Nat.div_lt_iff_lt_mul (by omega), ← Nat.pow_succ]; exact h)
      simp; omega
theorem digs_pos (b n : Nat) : 0 < (digs b n).length := by
  rw [digs]; split <;> simp

/-- x's last k digits in base 16 -/
def hexN : Nat → Nat → List UInt8
  | 0, _ => []
  | k + 1, x => hexN k (x / 16) ++ [hexD (x % 16)]
theorem hexN_length (k x : Nat) : (hexN k x).length = k := by
  induction k generalizing x with
  | zero => rfl
  | succ k ih => rw [hexN, List.length_append, ih]; rfl
theorem hexN_zero (k : Nat) : hexN k 0 = List.replicate k 48 := by
  induction k with
  | zero => rfl
  | succ k ih => rw [hexN, Nat.zero_div, ih, List.replicate_succ']; rfl
theorem hexN_pad (k x : Nat) (h : x < 16 ^ (k + 1)) : List.replicate (k + 1 - (digs 16 x).length) 48 ++ digs 16 x = hexN (k + 1) x := by
  induction k generalizing x with
  | zero =>
    have hx : x < 16 := by simpa using h
    rw [digs_small hx]
    simp [hexN, Nat.mod_eq_of_lt hx]
  | succ k ih =>
    by_cases hx : x < 16
    · rw [digs_small hx, hexN, Nat.div_eq_of_lt hx, hexN_zero, Nat.mod_eq_of_lt hx]
      rfl
    · rw [digs_step (by omega) (by omega), List.length_append, List.length_singleton, ← List.append_assoc, hexN]
      rw [← ih (x / 16) (by rw [Nat.div_lt_iff_lt_mul (by omega), ← Nat.pow_succ]; exact h)]
      rw [show k + 1 + 1 - ((digs 16 (x / 16)).length + 1) = k + 1 - (digs 16 (x / 16)).length from by omega]
theorem hexN_add (a b x : Nat) : hexN (a + b) x = hexN a (x / 16 ^ b) ++ hexN b (x % 16 ^ b) := by
  induction b generalizing x with
  | zero => simp [hexN]
  | succ b ih =>
    rw [← Nat.add_assoc, hexN, ih, hexN, List.append_assoc]
    have e1 : x / 16 / 16 ^ b = x / 16 ^ (b + 1) := by rw [Nat.div_div_eq_div_mul, Nat.pow_succ, Nat.mul_comm]
    have e2 : x % 16 ^ (b + 1) / 16 = x / 16 % 16 ^ b := by
      rw [Nat.pow_succ, Nat.mul_comm, Nat.mod_mul_right_div_self]
    have e3 : x % 16 ^ (b + 1) % 16 = x % 16 := by
      rw [Nat.pow_succ]; exact Nat.mod_mul_left_mod _ _ _
    rw [e1, e2, e3]
theorem hexN_next (h i : Nat) (hi : i < 16) : hexN (i + 1) (h / 16 ^ (15 - i)) = hexN i (h / 16 ^ (16 - i)) ++ [hexD (h / 16 ^ (15 - i) % 16)] := by
  rw [hexN, Nat.div_div_eq_div_mul, ← Nat.pow_succ]
  rw [show (15 - i).succ = 16 - i from by omega]

theorem hexD_hex (d : Nat) (h : d < 16) : (48 ≤ (hexD d).toNat ∧ (hexD d).toNat ≤ 57) ∨ (97 ≤ (hexD d).toNat ∧ (hexD d).toNat ≤ 102) := by
  unfold hexD
  split
  · left; simp; omega
  · right; simp; omega
theorem hexN_mem {k x : Nat} {c : UInt8} (h : c ∈ hexN k x) : ∃ d, d < 16 ∧ c = hexD d := by
  induction k generalizing x with
  | zero => cases h
  | succ k ih =>
    rw [hexN, List.mem_append] at h
    rcases h with h | h
    · exact ih h
    · exact ⟨x % 16, by omega, List.mem_singleton.1 h⟩
/-- the ID of a hash -/
def idOf (h : Nat) : ByteArray := bs (hexN 16 h)
theorem idOf_size (h : Nat) : (idOf h).size = 16 := by rw [idOf, bs_size, hexN_length]
end Go.Own
