/- The reference's NewID. -/
import Derived.Test.YtglljdhhgmgbgaaDoorNumR
import Derived.Test.YtglljdhhgmgbgaaDoorHash
import Derived.Test.YtglljdhhgmgbgaaDoorSource
import Derived.Laws.Bits64b
namespace Go.Proofs.YtglljdhhgmgbgaaDoor
open Go.RowKit Go.Own
set_option linter.unusedVariables false
set_option maxHeartbeats 1000000

theorem wrap_u64 (x : Int) : 0 ≤ IntKind.u64.wrap x ∧ IntKind.u64.wrap x < 18446744073709551616 := by
  simp [IntKind.wrap, IntKind.signed, IntKind.bits]
  omega
theorem hsum_bd (l : List ByteArray) : 0 ≤ hsum l ∧ hsum l < 18446744073709551616 := by
  have key : ∀ (l : List ByteArray) (h : Int), 0 ≤ h ∧ h < 18446744073709551616 → 0 ≤ l.foldl (fun h s => hrun (hrun h s.data.toList) [0]) h ∧ l.foldl (fun h s => hrun (hrun h s.data.toList) [0]) h < 18446744073709551616 := by
    intro l
    induction l with
    | nil => exact fun h hh => hh
    | cons s l ih => exact fun h hh => ih _ (wrap_u64 _)
  exact key l hstart ⟨by decide, by decide⟩

theorem rds_lit (w : World) (l : List ByteArray) (cs : Array Value) (n k : Nat) (hcs : cs = (strsV l).toArray) (hn : n = w.heap.size) (hk : k = l.length) (hl : l.length ≤ 1000000) : RdS (w.alloc (.cells cs 9)) (.slice (some ⟨n, 0, none⟩) k k) l := by
  subst hcs hn hk
  exact ⟨_, _, rfl, Nat.le_refl _, by simp [maxLen]; omega, (fun h => nomatch h), RdC_new w (strsV l) 9 (0, 0)⟩
theorem nib (n k : Nat) (hn : n < 18446744073709551616) (hk : k < 16) : wrap64 (bits BinOp.and IntKind.u64 ((n : Int) / 2 ^ (60 - 4 * k)) 15) = ((n / 16 ^ (15 - k) % 16 : Nat) : Int) := by
  have e0 : 16 ^ (15 - k) = 2 ^ (60 - 4 * k) := by
    rw [show (16 : Nat) = 2 ^ 4 from rfl, ← Nat.pow_mul]
    congr 1
    omega
  have e1 : (n : Int) / 2 ^ (60 - 4 * k) = ((n / 16 ^ (15 - k) : Nat) : Int) := by
    rw [e0, Int.natCast_ediv, Int.natCast_pow]; rfl
  rw [e1]
  have h1 : n / 16 ^ (15 - k) ≤ n := Nat.div_le_self _ _
  have e2 := bits_and_u64_nat (n / 16 ^ (15 - k)) 15 (by omega) (by omega)
  have e3 : n / 16 ^ (15 - k) &&& 15 = n / 16 ^ (15 - k) % 16 := Nat.and_two_pow_sub_one_eq_mod _ 4
  rw [e3] at e2
  refine (congrArg wrap64 e2).trans (IntWalk.wrap64_in _ ⟨by omega, by omega⟩)

end Go.Proofs.YtglljdhhgmgbgaaDoor