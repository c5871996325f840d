/- Plain laws on reading numbers. No program stands here. -/
import Derived.Test.YthohdgjjlkeclaaDoorNumP
namespace Go.Own
set_option linter.unusedVariables false

/-- the value of a digit, 16 for any other byte -/
def digV (c : UInt8) : Int := if 48 ≤ c.toNat ∧ c.toNat ≤ 57 then (c.toNat : Int) - 48 else if 97 ≤ c.toNat ∧ c.toNat ≤ 102 then (c.toNat : Int) - 87 else if 65 ≤ c.toNat ∧ c.toNat ≤ 70 then (c.toNat : Int) - 55 else 16
theorem digV_bd (c : UInt8) : 0 ≤ digV c ∧ digV c ≤ 16 := by
  unfold digV
  split
  · omega
  · split
    · omega
    · split <;> omega
def accN (b most : Int) : Int → List UInt8 → Option Int
  | n, [] => some n
  | n, c :: r => if most < digV c ∨ (most - digV c) / b < n then none else accN b most (n * b + digV c) r
def badN (b : Int) (l : List UInt8) : Bool := l.any fun c => decide (b ≤ digV c)
def parseN (b most : Int) (l : List UInt8) : Int × Int :=
  if badN b l || l.isEmpty then (0, 2) else match accN b most 0 l with
    | some n => (n, 0)
    | none => (0, 3)
theorem accN_stop {b most n : Int} {l : List UInt8} {k : Nat} (hk : k < l.length) (h : most < digV l[k] ∨ (most - digV l[k]) / b < n) : accN b most n (l.drop k) = none := by
  rw [List.drop_eq_getElem_cons hk, accN, if_pos h]
theorem accN_step {b most n : Int} {l : List UInt8} {k : Nat} (hk : k < l.length) (h : ¬ (most < digV l[k] ∨ (most - digV l[k]) / b < n)) : accN b most n (l.drop k) = accN b most (n * b + digV l[k]) (l.drop (k + 1)) := by
  rw [List.drop_eq_getElem_cons hk, accN, if_neg h]
theorem accN_bd {b most n d : Int} (hb : 0 < b) (hd : 0 ≤ d) (hn : 0 ≤ n) (h : ¬ (most < d ∨ (most - d) / b < n)) : 0 ≤ n * b + d ∧ n * b + d ≤ most := by
  have h1 : n ≤ (most - d) / b := by omega
  have h2 : n * b ≤ (most - d) / b * b := Int.mul_le_mul_of_nonneg_right h1 (by omega)
  have h3 : (most - d) / b * b ≤ most - d := Int.ediv_mul_le _ (by omega)
  have h4 : 0 ≤ n * b := Int.mul_nonneg hn (by omega)
  omega
theorem parseN_bad {b most : Int} {l : List UInt8} (h : badN b l = true) : parseN b most l = (0, 2) := by unfold parseN; rw [h]; rfl
theorem parseN_empty {b most : Int} : parseN b most [] = (0, 2) := rfl
theorem parseN_some {b most n : Int} {l : List UInt8} (h : badN b l = false) (h0 : l ≠ []) (ha : accN b most 0 l = some n) : parseN b most l = (n, 0) := by
  unfold parseN; rw [h, ha]; simp [h0]
theorem parseN_none {b most : Int} {l : List UInt8} (h : badN b l = false) (h0 : l ≠ []) (ha : accN b most 0 l = none) : parseN b most l = (0, 3) := by
  unfold parseN; rw [h, ha]; simp [h0]
theorem badN_at {b : Int} (l : List UInt8) (k : Nat) (h : k < l.length) (hb : b ≤ digV l[k]) : badN b l = true := by
  unfold badN; rw [List.any_eq_true]; exact ⟨l[k], List.getElem_mem h, by simpa using hb⟩
theorem badN_succ {b : Int} (l : List UInt8) (k : Nat) (h : k < l.length) (ht : badN b (l.take k) = false) (hb : ¬ b ≤ digV l[k]) : badN b (l.take (k + 1)) = false := by
  unfold badN at ht ⊢
  rw [List.take_succ_eq_append_getElem h, List.any_append, ht]
  simpa using hb
theorem badN_full {b : Int} (l : List UInt8) (k : Nat) (h : l.length ≤ k) (ht : badN b (l.take k) = false) : badN b l = false := by rwa [List.take_of_length_le h] at ht
theorem badN_get {b : Int} {l : List UInt8} (h : badN b l = false) (k : Nat) (hk : k < l.length) : ¬ b ≤ digV l[k] := by
  unfold badN at h
  rw [List.any_eq_false] at h
  simpa using h l[k] (List.getElem_mem hk)
end Go.Own
