/- What the laid tables give the walks. -/
import Derived.Test.YtglljdhhgmgbgaaGreatDoorOpen
import Derived.Stop.LaidErr
namespace Go.Proofs.YtglljdhhgmgbgaaGreatDoor
open Go.RowKit Go.Own
set_option linter.unusedVariables false

theorem env_of2 {W : World} {rest : List (String × DataW Unit)} (h : W.ShapedOpen Tryz.prog) (hL : laidMet Tryz.prog (("math/bits.deBruijn32tab", Rows.laid_math_bits_deBruijn32tab) :: ("math/bits.deBruijn64tab", Rows.laid_math_bits_deBruijn64tab) :: ("internal/strconv.uint64pow10", Rows.laid_internal_strconv_uint64pow10) :: rest) W) : EnvP W :=
  { env := env_of h
    pow := Lib.tabIs_of_head (g := 1) (t := 148) (e := 109) (n := 20) (by kernel_rfl) (by kernel_rfl) Tryz.underlying148 Tryz.underlying109 (by kernel_rfl) (by kernel_rfl) hL.tail.tail
    deb := Lib.tabIs_of_head (g := 5) (t := 157) (e := 5) (n := 64) (by kernel_rfl) (by kernel_rfl) Tryz.underlying157 Tryz.underlying5 (by kernel_rfl) (by kernel_rfl) hL.tail }
end Go.Proofs.YtglljdhhgmgbgaaGreatDoor
