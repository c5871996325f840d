/- What the laid tables give the walks: the reasons too. -/
import Derived.Test.YtajohphiclbjkaaDoorRROpenL
import Derived.Test.YtajohphiclbjkaaDoorRRReason
namespace Go.Proofs.YtajohphiclbjkaaDoorRR
open Go.RowKit Go.Own
set_option linter.unusedVariables false

theorem rea_type : (Tryd.prog.globals[0]?).map (·.type) = some 102 := by kernel_rfl
theorem env_of3 {W : World} {rest : List (String × DataW Unit)} (h : W.ShapedOpen Tryd.prog) (hL : laidMet Tryd.prog (("math/bits.deBruijn32tab", Rows.laid_math_bits_deBruijn32tab) :: ("math/bits.deBruijn64tab", Rows.laid_math_bits_deBruijn64tab) :: ("internal/strconv.uint64pow10", Rows.laid_internal_strconv_uint64pow10) :: ("canary/writer.reasons", Rows.laid_canary_writer_reasons) :: rest) W) : EnvW W := by
  refine { p := env_of2 h hL, rea := ?_ }
  have hg0 : Tryd.prog.globalNamed "canary/writer.reasons" = some 0 := by kernel_rfl
  obtain ⟨ps, ⟨g', t', cs, fuel, p, q, hg', ht', hvar, hd, _, _⟩, _⟩ := hL.tail.tail.tail
  obtain rfl := Option.some.inj (hg0.symm.trans hg')
  obtain rfl := Option.some.inj (rea_type.symm.trans ht')
  have hd2 : DataW.trod (fun _ => ()) Tryd.prog W 0 (fun _ => true) false fuel 102 cs.toList = some (.agg (reasonT.map fun x => .agg [.lit (.int .i64 x.1), .lit (.string x.2)]), p) := hd
  have hcs := cells_of_pairs Tryd.underlying102 Tryd.underlying101 (by kernel_rfl) (by kernel_rfl) (by kernel_rfl) Tryd.underlying3 Tryd.underlying9 hd2
  unfold World.var? at hvar
  rw [hg0] at hvar
  simp only [Option.bind_some] at hvar
  split at hvar
  · rename_i cs' t fz hh
    obtain rfl := Option.some.inj hvar
    refine ⟨t, fz, ?_⟩
    rw [hh]
    have : cs' = reasonsV := by unfold reasonsV; rw [← hcs]
    rw [this]
  · cases hvar
end Go.Proofs.YtajohphiclbjkaaDoorRR
