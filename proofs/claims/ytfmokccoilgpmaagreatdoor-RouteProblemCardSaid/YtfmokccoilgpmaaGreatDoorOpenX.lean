/- What the laid tables give the walks: the reasons too. -/
import Derived.Test.YtfmokccoilgpmaaGreatDoorOpenL
import Derived.Test.YtfmokccoilgpmaaGreatDoorReason
namespace Go.Proofs.YtfmokccoilgpmaaGreatDoor
open Go.RowKit Go.Own
set_option linter.unusedVariables false

theorem rea_typeX : (Tryz.prog.globals[0]?).map (·.type) = some 106 := by kernel_rfl
theorem env_of4 {W : World} {rest : List (String × DataW Unit)} (h : W.ShapedOpen Tryz.prog) (hL : laidMet Tryz.prog (("math/bits.deBruijn32tab", Rows.laid_math_bits_deBruijn32tab) :: ("math/bits.deBruijn64tab", Rows.laid_math_bits_deBruijn64tab) :: ("internal/strconv.uint64pow10", Rows.laid_internal_strconv_uint64pow10) :: ("unicode/utf8.acceptRanges", Rows.laid_unicode_utf8_acceptRanges) :: ("canary/writer.reasons", Rows.laid_canary_writer_reasons) :: rest) W) : EnvW W := by
  refine { p := env_of2 h hL, rea := ?_ }
  have hg0 : Tryz.prog.globalNamed "canary/writer.reasons" = some 0 := by kernel_rfl
  obtain ⟨ps, ⟨g', t', cs, fuel, p, q, hg', ht', hvar, hd, _, _⟩, _⟩ := hL.tail.tail.tail.tail
  obtain rfl := Option.some.inj (hg0.symm.trans hg')
  obtain rfl := Option.some.inj (rea_typeX.symm.trans ht')
  have hd2 : DataW.trod (fun _ => ()) Tryz.prog W 0 (fun _ => true) false fuel 106 cs.toList = some (.agg (reasonT.map fun x => .agg [.lit (.int .i64 x.1), .lit (.string x.2)]), p) := hd
  have hcs := cells_of_pairs Tryz.underlying106 Tryz.underlying105 (by kernel_rfl) (by kernel_rfl) (by kernel_rfl) Tryz.underlying3 Tryz.underlying9 hd2
  unfold World.var? at hvar
  rw [hg0] at hvar
  simp only [Option.bind_some] at hvar
  split at hvar
  · rename_i cs' t fz hh
    obtain rfl := Option.some.inj hvar
    refine ⟨t, fz, ?_⟩
    rw [hh]
    have : cs' = reasonsV := by unfold reasonsV; rw [← hcs]
    rw [this]
  · cases hvar
end Go.Proofs.YtfmokccoilgpmaaGreatDoor
