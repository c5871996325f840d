/- What the laid tables give the walks. -/
import Derived.Test.YtajohphiclbjkaaDoorRROpen
import Derived.Stop.LaidErr
namespace Go.Proofs.YtajohphiclbjkaaDoorRR
open Go.RowKit Go.Own
set_option linter.unusedVariables false

theorem env_of2 {W : World} {rest : List (String × DataW Unit)} (h : W.ShapedOpen Tryd.prog) (hL : laidMet Tryd.prog (("math/bits.deBruijn32tab", Rows.laid_math_bits_deBruijn32tab) :: ("math/bits.deBruijn64tab", Rows.laid_math_bits_deBruijn64tab) :: ("internal/strconv.uint64pow10", Rows.laid_internal_strconv_uint64pow10) :: rest) W) : EnvP W :=
  { env := env_of h
    pow := Lib.tabIs_of_head (g := 4) (t := 168) (e := 127) (n := 20) (by kernel_rfl) (by kernel_rfl) Tryd.underlying168 Tryd.underlying127 (by kernel_rfl) (by kernel_rfl) hL.tail.tail
    deb := Lib.tabIs_of_head (g := 6) (t := 174) (e := 5) (n := 64) (by kernel_rfl) (by kernel_rfl) Tryd.underlying174 Tryd.underlying5 (by kernel_rfl) (by kernel_rfl) hL.tail }
end Go.Proofs.YtajohphiclbjkaaDoorRR
