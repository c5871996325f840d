/- The lines of a head: lines of the reference. -/
import Derived.Test.YtglljdhhgmgbgaaDoorHeadL
namespace Go.Proofs.YtglljdhhgmgbgaaDoor
open Go.RowKit Go.Own
set_option linter.unusedVariables false
set_option maxHeartbeats 2000000

def RLinesV (q : Option (List ByteArray)) (e : Ending) (w' : World) : Prop := match q with
  | some l => ∃ v, e = .returned (.tuple #[v, .int .i64 0]) ∧ RdS w' v l
  | none => e = .returned (.tuple #[.slice none 0 0, .int .i64 2])
theorem RLinesV_none {b : List UInt8} {w' : World} (h : linesP b = none) : RLinesV (linesS b) (.returned (.tuple #[.slice none 0 0, .int .i64 2])) w' := by rw [linesS_of h]; rfl
theorem endP_short {b : List UInt8} (h : b.length < 4) : endP b ≠ b.length := by
  rcases endP_cases b with ⟨h2, -⟩ | ⟨i, h2, -, h3⟩ <;> omega
theorem neq_int {x y : Int} (h : x ≠ y) : (x != y) = true := bne_iff_ne.2 h
theorem eq_int {x y : Int} (h : x = y) : (x != y) = false := bne_eq_false_iff_eq.2 h

theorem ne13 {x : UInt8} (h : x ≠ 13) : ((x.toNat : Int) == 13) = false := beq_eq_false_iff_ne.2 fun e => h (UInt8.toNat_inj.1 (by have : (13 : UInt8).toNat = 13 := rfl; omega))
theorem ne10 {x : UInt8} (h : x ≠ 10) : ((x.toNat : Int) == 10) = false := beq_eq_false_iff_ne.2 fun e => h (UInt8.toNat_inj.1 (by have : (10 : UInt8).toNat = 10 := rfl; omega))
end Go.Proofs.YtglljdhhgmgbgaaDoor