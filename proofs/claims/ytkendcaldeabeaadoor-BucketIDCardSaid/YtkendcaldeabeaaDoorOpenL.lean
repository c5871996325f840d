/- What the laid tables give the walks. -/
import Derived.Test.YtkendcaldeabeaaDoorOpen
import Derived.Stop.LaidErr
namespace Go.Proofs.YtkendcaldeabeaaDoor
open Go.RowKit Go.Own
set_option linter.unusedVariables false

theorem env_of2 {W : World} (h : W.ShapedOpen Tryd.prog) (hL : laidMet Tryd.prog [("math/bits.deBruijn32tab", Rows.laid_math_bits_deBruijn32tab), ("math/bits.deBruijn64tab", Rows.laid_math_bits_deBruijn64tab), ("internal/strconv.uint64pow10", Rows.laid_internal_strconv_uint64pow10)] W) : Env W :=
  { ok := trivial
    max := Go.Proofs.cell_of_shapedOpen_int (zero := #[.int .i64 0]) (t := 3) h (of_decide_eq_true (by kernel_rfl)) (by kernel_rfl) rfl (by kernel_rfl) (by kernel_rfl) Tryd.underlying3
    pow := Lib.tabIs_of_head (g := 0) (t := 75) (e := 32) (n := 20) (by kernel_rfl) (by kernel_rfl) Tryd.underlying75 Tryd.underlying32 (by kernel_rfl) (by kernel_rfl) hL.tail.tail
    deb := Lib.tabIs_of_head (g := 3) (t := 81) (e := 5) (n := 64) (by kernel_rfl) (by kernel_rfl) Tryd.underlying81 Tryd.underlying5 (by kernel_rfl) (by kernel_rfl) hL.tail }
end Go.Proofs.YtkendcaldeabeaaDoor
