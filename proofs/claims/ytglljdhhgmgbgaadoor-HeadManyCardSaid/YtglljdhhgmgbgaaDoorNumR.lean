/- The reference's numerals. -/
import Derived.Test.YtglljdhhgmgbgaaDoorPA
import Derived.Test.YtglljdhhgmgbgaaDoorEnv
import Derived.Deep.QuietTactic
import Derived.BigQuiet
import Derived.WalkSmall
namespace Go.Proofs.YtglljdhhgmgbgaaDoor
open Go.RowKit Go.Own
set_option linter.unusedVariables false
set_option maxHeartbeats 1000000

theorem digs_len64 (b n : Nat) (hb : 2 ≤ b) (hn : n ≤ 9223372036854775807) : (digs b n).length ≤ 64 := by
  refine digs_length_le b n 63 hb ?_
  exact Nat.lt_of_lt_of_le (Nat.lt_of_le_of_lt hn (by decide : 9223372036854775807 < 2 ^ 64)) (Nat.pow_le_pow_left hb 64)
theorem hex_at : ∀ d : Nat, d < 16 → bl ((⟨#[48, 49, 50, 51, 52, 53, 54, 55, 56, 57, 97, 98, 99, 100, 101, 102]⟩ : ByteArray).extract d (d + 1)) = [hexD d] := by decide +kernel







end Go.Proofs.YtglljdhhgmgbgaaDoor