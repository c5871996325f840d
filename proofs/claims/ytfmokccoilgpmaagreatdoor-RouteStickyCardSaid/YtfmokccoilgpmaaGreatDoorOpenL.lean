/- What the laid tables give the walks. -/
import Derived.Test.YtfmokccoilgpmaaGreatDoorOpen
import Derived.Stop.LaidErr
namespace Go.Proofs.YtfmokccoilgpmaaGreatDoor
open Go.RowKit Go.Own
set_option linter.unusedVariables false

theorem env_of2 {W : World} {rest : List (String × DataW Unit)} (h : W.ShapedOpen Tryz.prog) (hL : laidMet Tryz.prog (("math/bits.deBruijn32tab", Rows.laid_math_bits_deBruijn32tab) :: ("math/bits.deBruijn64tab", Rows.laid_math_bits_deBruijn64tab) :: ("internal/strconv.uint64pow10", Rows.laid_internal_strconv_uint64pow10) :: rest) W) : EnvP W :=
  { env := env_of h
    pow := Lib.tabIs_of_head (g := 2) (t := 170) (e := 70) (n := 20) (by kernel_rfl) (by kernel_rfl) Tryz.underlying170 Tryz.underlying70 (by kernel_rfl) (by kernel_rfl) hL.tail.tail
    deb := Lib.tabIs_of_head (g := 6) (t := 180) (e := 5) (n := 64) (by kernel_rfl) (by kernel_rfl) Tryz.underlying180 Tryz.underlying5 (by kernel_rfl) (by kernel_rfl) hL.tail }
end Go.Proofs.YtfmokccoilgpmaaGreatDoor
