/- What the laid tables give the walks. -/
import Derived.Test.YtglljdhhgmgbgaaDoorOpen
import Derived.Stop.LaidErr
namespace Go.Proofs.YtglljdhhgmgbgaaDoor
open Go.RowKit Go.Own
set_option linter.unusedVariables false

theorem env_of2 {W : World} {rest : List (String × DataW Unit)} (h : W.ShapedOpen Tryd.prog) (hL : laidMet Tryd.prog (("math/bits.deBruijn32tab", Rows.laid_math_bits_deBruijn32tab) :: ("math/bits.deBruijn64tab", Rows.laid_math_bits_deBruijn64tab) :: ("internal/strconv.uint64pow10", Rows.laid_internal_strconv_uint64pow10) :: rest) W) : EnvP W :=
  { env := env_of h
    pow := Lib.tabIs_of_head (g := 3) (t := 113) (e := 103) (n := 20) (by kernel_rfl) (by kernel_rfl) Tryd.underlying113 Tryd.underlying103 (by kernel_rfl) (by kernel_rfl) hL.tail.tail
    deb := Lib.tabIs_of_head (g := 5) (t := 118) (e := 5) (n := 64) (by kernel_rfl) (by kernel_rfl) Tryd.underlying118 Tryd.underlying5 (by kernel_rfl) (by kernel_rfl) hL.tail }
end Go.Proofs.YtglljdhhgmgbgaaDoor
