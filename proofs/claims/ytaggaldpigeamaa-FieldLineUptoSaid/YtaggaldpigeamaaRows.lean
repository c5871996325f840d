/-
  No cell of these rows narrows 'for every input' (looked for: loops, veiled, ifaces, maps, wideKeys, modest, calm, conditions, laid).
  DERIVED. THE GIVEN ROWS OF THIS SEAT. 4 by the template 'for every input the law returns true; each argument reads behind the call as it read before'; 0 by the template 'total and deterministic' (their statements: YtaggaldpigeamaaTotals.lean).
  GIVEN WITH THE SEED: the statements are not yours to turn. If you find one false, say at which input.
  Laid BY PROGRAM, IN A SANDBOX (cutbox-rows.mjs): the forced cells as the released guide's own fill.sh prints them over the translation 78b39ae39e8f9456… (all of the seat's roots in one cut). By AI agents, Wed Nov 11 2026. No macro, syntax, notation, axiom, sorry.
-/
import Derived.Test.YtaggaldpigeamaaChecked
import GoSem.Claim
import GoSem.ClaimJoined
import GoSem.ClaimMapViews
import Derived.JoinedTies
import Derived.KernelRfl
namespace Go.Proofs.Ytaggaldpigeamaa
/- THE CELL 'sum', in the pinned program and in every row, IS THE sha256 OF THE DUMP (.gsa) THAT YtaggaldpigeamaaProg.lean LOADS. Nothing in Lean hashes anything: it is a label: what it is worth is what the hold of that sum in a sandbox is worth. -/
noncomputable def Try.pinned : Pinned := { name := "ytaggaldpigeamaa", sum := "78b39ae39e8f94562aaf200217bccab783eb5d5f074c2095fa77170072e528cc", checked := Try.checked }
namespace Rows
def none {H : Type} : Left H := { results := [], args := [] }

/-- 'canarylaw06.FieldParse': WHATEVER THE INPUT: true; the input reads as it did. -/
def fieldParseSpec : ChangeSpec := { name := "fieldParse", fn := fun _ => fun
  | [d1, d2, d3, d4, d5, d6] => { results := [.lit (.bool true)], args := [d1, d2, d3, d4, d5, d6] }
  | _ => none }
def fieldParseRow : OpenClaim := { program := "ytaggaldpigeamaa", sum := "78b39ae39e8f94562aaf200217bccab783eb5d5f074c2095fa77170072e528cc", func := "canary/canarylaw06.FieldParse", spec := "fieldParse", inPlace := ["internal/bytealg.IndexByteString", "internal/bytealg.IndexString"], named := ["internal/bytealg.MaxLen"], apart := false }
def FieldParseSaid : Prop := fieldParseRow.holds Try.pinned (OpenSpec.ofChange fieldParseSpec)

/-- ITS FALSE NEIGHBOUR: 'it returns false'. Refute it at one input. -/
def fieldParseWrong : ChangeSpec := { name := "fieldParse", fn := fun _ => fun
  | [d1, d2, d3, d4, d5, d6] => { results := [.lit (.bool false)], args := [d1, d2, d3, d4, d5, d6] }
  | _ => none }
def FieldParseWrongFalsely : Prop := fieldParseRow.holds Try.pinned (OpenSpec.ofChange fieldParseWrong)

/-- 'canarylaw06.FieldFormat': WHATEVER THE INPUT: true; the input reads as it did. -/
def fieldFormatSpec : ChangeSpec := { name := "fieldFormat", fn := fun _ => fun
  | [d1, d2, d3] => { results := [.lit (.bool true)], args := [d1, d2, d3] }
  | _ => none }
def fieldFormatRow : OpenClaim := { program := "ytaggaldpigeamaa", sum := "78b39ae39e8f94562aaf200217bccab783eb5d5f074c2095fa77170072e528cc", func := "canary/canarylaw06.FieldFormat", spec := "fieldFormat", inPlace := ["internal/bytealg.IndexByteString", "internal/abi.NoEscape", "internal/bytealg.IndexString"], named := ["internal/bytealg.MaxLen"], apart := false }
def FieldFormatSaid : Prop := fieldFormatRow.holds Try.pinned (OpenSpec.ofChange fieldFormatSpec)

/-- ITS FALSE NEIGHBOUR: 'it returns false'. Refute it at one input. -/
def fieldFormatWrong : ChangeSpec := { name := "fieldFormat", fn := fun _ => fun
  | [d1, d2, d3] => { results := [.lit (.bool false)], args := [d1, d2, d3] }
  | _ => none }
def FieldFormatWrongFalsely : Prop := fieldFormatRow.holds Try.pinned (OpenSpec.ofChange fieldFormatWrong)

/-- 'canarylaw06.FieldLine': WHATEVER THE INPUT: true; the input reads as it did. -/
def fieldLineSpec : ChangeSpec := { name := "fieldLine", fn := fun _ => fun
  | [d1, d2] => { results := [.lit (.bool true)], args := [d1, d2] }
  | _ => none }
def fieldLineRow : OpenClaim := { program := "ytaggaldpigeamaa", sum := "78b39ae39e8f94562aaf200217bccab783eb5d5f074c2095fa77170072e528cc", func := "canary/canarylaw06.FieldLine", spec := "fieldLine", inPlace := ["internal/bytealg.IndexByteString", "internal/abi.NoEscape", "internal/bytealg.IndexString"], named := ["internal/bytealg.MaxLen"], apart := false }
def FieldLineSaid : Prop := fieldLineRow.holds Try.pinned (OpenSpec.ofChange fieldLineSpec)

/-- ITS FALSE NEIGHBOUR: 'it returns false'. Refute it at one input. -/
def fieldLineWrong : ChangeSpec := { name := "fieldLine", fn := fun _ => fun
  | [d1, d2] => { results := [.lit (.bool false)], args := [d1, d2] }
  | _ => none }
def FieldLineWrongFalsely : Prop := fieldLineRow.holds Try.pinned (OpenSpec.ofChange fieldLineWrong)

/-- 'canarylaw06.FieldWithout': WHATEVER THE INPUT: true; the input reads as it did. -/
def fieldWithoutSpec : ChangeSpec := { name := "fieldWithout", fn := fun _ => fun
  | [d1, d2, d3, d4, d5, d6, d7] => { results := [.lit (.bool true)], args := [d1, d2, d3, d4, d5, d6, d7] }
  | _ => none }
def fieldWithoutRow : OpenClaim := { program := "ytaggaldpigeamaa", sum := "78b39ae39e8f94562aaf200217bccab783eb5d5f074c2095fa77170072e528cc", func := "canary/canarylaw06.FieldWithout", spec := "fieldWithout", inPlace := ["internal/bytealg.IndexByteString", "internal/bytealg.IndexString"], unfollowed := true, recurses := true, named := ["internal/bytealg.MaxLen"], apart := false }
def FieldWithoutSaid : Prop := fieldWithoutRow.holds Try.pinned (OpenSpec.ofChange fieldWithoutSpec)

/-- ITS FALSE NEIGHBOUR: 'it returns false'. Refute it at one input. -/
def fieldWithoutWrong : ChangeSpec := { name := "fieldWithout", fn := fun _ => fun
  | [d1, d2, d3, d4, d5, d6, d7] => { results := [.lit (.bool false)], args := [d1, d2, d3, d4, d5, d6, d7] }
  | _ => none }
def FieldWithoutWrongFalsely : Prop := fieldWithoutRow.holds Try.pinned (OpenSpec.ofChange fieldWithoutWrong)

/- THE SECOND FORM. 'bulk': how many values and letters a reading holds, each counted each time it is reached (what is shared counts as often as it is met; a slice's spare places count too). A statement '..UptoSaid' is the law's where the arguments, and the package variables that the reading takes, are together of bulk at most 1048576: NARROWER than '..Said'. Prove '..Said' where nothing that the law and all that it calls make is longer than what came in: it says more and counts as full. Else prove '..UptoSaid'. A law counts once. -/
mutual
def uptoBulk {H : Type} : DataW H → Nat
  | .lit (.string bytes) => bytes.length + 1
  | .lit _ => 1
  | .nil => 1
  | .ptr d => uptoBulk d + 1
  | .slice elems spare => uptoBulkAll elems + uptoBulkAll spare + 1
  | .agg parts => uptoBulkAll parts + 1
  | .iface _ d => uptoBulk d + 1
  | .map entries => uptoBulkEntries entries + 1
  | .held _ => 1
def uptoBulkAll {H : Type} : List (DataW H) → Nat
  | [] => 0
  | d :: r => uptoBulk d + uptoBulkAll r
def uptoBulkEntries {H : Type} : List (Lit × DataW H) → Nat
  | [] => 0
  | x :: r => uptoBulkEntry x + uptoBulkEntries r
def uptoBulkEntry {H : Type} : Lit × DataW H → Nat
  | (.string bytes, d) => bytes.length + uptoBulk d + 1
  | (_, d) => uptoBulk d + 1
 end
def uptoSmall : (H : Type) → List (DataW H) → Bool := fun _ ds => decide (uptoBulkAll ds ≤ 1048576)
def OpenSpec.upto (s : _root_.Go.ChangeSpec) : _root_.Go.OpenSpec := { _root_.Go.OpenSpec.ofChange s with cond := some uptoSmall }

/-- 'canarylaw06.FieldParse', WHERE WHAT IT READS IS OF BULK AT MOST 1048576: true; the input reads as it did. -/
def fieldParseUptoRow : OpenClaim := { program := "ytaggaldpigeamaa", sum := "78b39ae39e8f94562aaf200217bccab783eb5d5f074c2095fa77170072e528cc", func := "canary/canarylaw06.FieldParse", spec := "fieldParse", inPlace := ["internal/bytealg.IndexByteString", "internal/bytealg.IndexString"], named := ["internal/bytealg.MaxLen"], apart := false, narrowed := true }
def FieldParseUptoSaid : Prop := fieldParseUptoRow.holds Try.pinned (OpenSpec.upto fieldParseSpec)

/-- 'canarylaw06.FieldFormat', WHERE WHAT IT READS IS OF BULK AT MOST 1048576: true; the input reads as it did. -/
def fieldFormatUptoRow : OpenClaim := { program := "ytaggaldpigeamaa", sum := "78b39ae39e8f94562aaf200217bccab783eb5d5f074c2095fa77170072e528cc", func := "canary/canarylaw06.FieldFormat", spec := "fieldFormat", inPlace := ["internal/bytealg.IndexByteString", "internal/abi.NoEscape", "internal/bytealg.IndexString"], named := ["internal/bytealg.MaxLen"], apart := false, narrowed := true }
def FieldFormatUptoSaid : Prop := fieldFormatUptoRow.holds Try.pinned (OpenSpec.upto fieldFormatSpec)

/-- 'canarylaw06.FieldLine', WHERE WHAT IT READS IS OF BULK AT MOST 1048576: true; the input reads as it did. -/
def fieldLineUptoRow : OpenClaim := { program := "ytaggaldpigeamaa", sum := "78b39ae39e8f94562aaf200217bccab783eb5d5f074c2095fa77170072e528cc", func := "canary/canarylaw06.FieldLine", spec := "fieldLine", inPlace := ["internal/bytealg.IndexByteString", "internal/abi.NoEscape", "internal/bytealg.IndexString"], named := ["internal/bytealg.MaxLen"], apart := false, narrowed := true }
def FieldLineUptoSaid : Prop := fieldLineUptoRow.holds Try.pinned (OpenSpec.upto fieldLineSpec)

/-- 'canarylaw06.FieldWithout', WHERE WHAT IT READS IS OF BULK AT MOST 1048576: true; the input reads as it did. -/
def fieldWithoutUptoRow : OpenClaim := { program := "ytaggaldpigeamaa", sum := "78b39ae39e8f94562aaf200217bccab783eb5d5f074c2095fa77170072e528cc", func := "canary/canarylaw06.FieldWithout", spec := "fieldWithout", inPlace := ["internal/bytealg.IndexByteString", "internal/bytealg.IndexString"], unfollowed := true, recurses := true, named := ["internal/bytealg.MaxLen"], apart := false, narrowed := true }
def FieldWithoutUptoSaid : Prop := fieldWithoutUptoRow.holds Try.pinned (OpenSpec.upto fieldWithoutSpec)

end Rows
end Go.Proofs.Ytaggaldpigeamaa
