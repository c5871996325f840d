/-
  NARROWER THAN 'FOR EVERY INPUT', by the rows' own cells (each row's printed sentence says how): AsciiLower: laid · AsciiToken: laid · AsciiBytes: laid · AsciiTrim: laid · AsciiList: laid · FieldValues: laid.
  DERIVED. THE GIVEN ROWS OF THIS SEAT. 6 by the template 'for every input the law returns true; each argument reads behind the call as it read before'; 0 by the template 'total and deterministic' (their statements: YtaggaldpigeamaaDoorTotals.lean).
  GIVEN WITH THE SEED: the statements are not yours to turn. If you find one false, say at which input.
  Laid BY PROGRAM, IN A SANDBOX (cutbox-rows.mjs): the forced cells as the released guide's own fill.sh prints them over the translation 1e0c550622feaf94… (all of the seat's roots in one cut). By AI agents, Wed Nov 11 2026. No macro, syntax, notation, axiom, sorry.
-/
import Derived.Test.YtaggaldpigeamaaDoorChecked
import GoSem.PinnedTables
import GoSem.Claim
import GoSem.ClaimJoined
import GoSem.ClaimMapViews
import Derived.JoinedTies
import Derived.KernelRfl
namespace Go.Proofs.YtaggaldpigeamaaDoor
/- THE CELL 'sum', in the pinned program and in every row, IS THE sha256 OF THE DUMP (.gsa) THAT YtaggaldpigeamaaDoorProg.lean LOADS. Nothing in Lean hashes anything: it is a label: what it is worth is what the hold of that sum in a sandbox is worth. -/
noncomputable def Tryd.pinned : Pinned := { name := "ytaggaldpigeamaadoor", sum := "1e0c550622feaf948c920f2e77772746fe46466054bfbc460194b2b70f6f0017", checked := Tryd.checked }
namespace Rows
def none {H : Type} : Left H := { results := [], args := [] }

/- WHAT THE LISTED PACKAGE-LEVEL VARIABLES READ AS WHEN THE CALL BEGINS. Each datum BY PROGRAM (the guide's laid-datum.mjs) off the statement by which the dump's own 'gosem.cut.vars' lays the variable. In a bare row this is a premise. The card (YtaggaldpigeamaaDoorCards.lean) ties it to the program's text. -/
def laid_unicode_utf8_acceptRanges {H : Type} : DataW H := .agg [.agg [.lit (.int .u8 128), .lit (.int .u8 191)], .agg [.lit (.int .u8 160), .lit (.int .u8 191)], .agg [.lit (.int .u8 128), .lit (.int .u8 159)], .agg [.lit (.int .u8 144), .lit (.int .u8 191)], .agg [.lit (.int .u8 128), .lit (.int .u8 143)], .agg [.lit (.int .u8 0), .lit (.int .u8 0)], .agg [.lit (.int .u8 0), .lit (.int .u8 0)], .agg [.lit (.int .u8 0), .lit (.int .u8 0)], .agg [.lit (.int .u8 0), .lit (.int .u8 0)], .agg [.lit (.int .u8 0), .lit (.int .u8 0)], .agg [.lit (.int .u8 0), .lit (.int .u8 0)], .agg [.lit (.int .u8 0), .lit (.int .u8 0)], .agg [.lit (.int .u8 0), .lit (.int .u8 0)], .agg [.lit (.int .u8 0), .lit (.int .u8 0)], .agg [.lit (.int .u8 0), .lit (.int .u8 0)], .agg [.lit (.int .u8 0), .lit (.int .u8 0)]]
/-- One of Go's own tables, pinned by name: the form's constant. -/
def laid_unicode_utf8_first : DataW Unit := Go.Pinned.utf8First

/-- 'canarylaw01.AsciiLower': WHATEVER THE INPUT: true; the input reads as it did. -/
def asciiLowerSpec : ChangeSpec := { name := "asciiLower", fn := fun _ => fun
  | [d1, d2] => { results := [.lit (.bool true)], args := [d1, d2] }
  | _ => none }
def asciiLowerRow : OpenClaim := { program := "ytaggaldpigeamaadoor", sum := "1e0c550622feaf948c920f2e77772746fe46466054bfbc460194b2b70f6f0017", func := "canary/canarylaw01.AsciiLower", spec := "asciiLower", inPlace := ["internal/bytealg.IndexByteString", "internal/bytealg.CountString", "internal/bytealg.IndexString"], named := ["unicode/utf8.first", "unicode/utf8.acceptRanges", "internal/bytealg.MaxLen"], apart := false, laid := [("unicode/utf8.acceptRanges", laid_unicode_utf8_acceptRanges), ("unicode/utf8.first", laid_unicode_utf8_first)] }
def AsciiLowerSaid : Prop := asciiLowerRow.holds Tryd.pinned (OpenSpec.ofChange asciiLowerSpec)

/-- ITS FALSE NEIGHBOUR: 'it returns false'. Refute it at one input. -/
def asciiLowerWrong : ChangeSpec := { name := "asciiLower", fn := fun _ => fun
  | [d1, d2] => { results := [.lit (.bool false)], args := [d1, d2] }
  | _ => none }
def AsciiLowerWrongFalsely : Prop := asciiLowerRow.holds Tryd.pinned (OpenSpec.ofChange asciiLowerWrong)

/-- 'canarylaw01.AsciiToken': WHATEVER THE INPUT: true; the input reads as it did. -/
def asciiTokenSpec : ChangeSpec := { name := "asciiToken", fn := fun _ => fun
  | [d1, d2] => { results := [.lit (.bool true)], args := [d1, d2] }
  | _ => none }
def asciiTokenRow : OpenClaim := { program := "ytaggaldpigeamaadoor", sum := "1e0c550622feaf948c920f2e77772746fe46466054bfbc460194b2b70f6f0017", func := "canary/canarylaw01.AsciiToken", spec := "asciiToken", inPlace := ["internal/bytealg.IndexByteString", "internal/bytealg.CountString", "internal/bytealg.IndexString"], named := ["unicode/utf8.first", "unicode/utf8.acceptRanges", "internal/bytealg.MaxLen"], apart := false, laid := [("unicode/utf8.acceptRanges", laid_unicode_utf8_acceptRanges), ("unicode/utf8.first", laid_unicode_utf8_first)] }
def AsciiTokenSaid : Prop := asciiTokenRow.holds Tryd.pinned (OpenSpec.ofChange asciiTokenSpec)

/-- ITS FALSE NEIGHBOUR: 'it returns false'. Refute it at one input. -/
def asciiTokenWrong : ChangeSpec := { name := "asciiToken", fn := fun _ => fun
  | [d1, d2] => { results := [.lit (.bool false)], args := [d1, d2] }
  | _ => none }
def AsciiTokenWrongFalsely : Prop := asciiTokenRow.holds Tryd.pinned (OpenSpec.ofChange asciiTokenWrong)

/-- 'canarylaw01.AsciiBytes': WHATEVER THE INPUT: true; the input reads as it did. -/
def asciiBytesSpec : ChangeSpec := { name := "asciiBytes", fn := fun _ => fun
  | [d] => { results := [.lit (.bool true)], args := [d] }
  | _ => none }
def asciiBytesRow : OpenClaim := { program := "ytaggaldpigeamaadoor", sum := "1e0c550622feaf948c920f2e77772746fe46466054bfbc460194b2b70f6f0017", func := "canary/canarylaw01.AsciiBytes", spec := "asciiBytes", inPlace := ["internal/bytealg.IndexByteString", "internal/bytealg.CountString", "internal/bytealg.IndexString"], named := ["unicode/utf8.first", "unicode/utf8.acceptRanges", "internal/bytealg.MaxLen"], apart := false, laid := [("unicode/utf8.acceptRanges", laid_unicode_utf8_acceptRanges), ("unicode/utf8.first", laid_unicode_utf8_first)] }
def AsciiBytesSaid : Prop := asciiBytesRow.holds Tryd.pinned (OpenSpec.ofChange asciiBytesSpec)

/-- ITS FALSE NEIGHBOUR: 'it returns false'. Refute it at one input. -/
def asciiBytesWrong : ChangeSpec := { name := "asciiBytes", fn := fun _ => fun
  | [d] => { results := [.lit (.bool false)], args := [d] }
  | _ => none }
def AsciiBytesWrongFalsely : Prop := asciiBytesRow.holds Tryd.pinned (OpenSpec.ofChange asciiBytesWrong)

/-- 'canarylaw01.AsciiTrim': WHATEVER THE INPUT: true; the input reads as it did. -/
def asciiTrimSpec : ChangeSpec := { name := "asciiTrim", fn := fun _ => fun
  | [d1, d2, d3] => { results := [.lit (.bool true)], args := [d1, d2, d3] }
  | _ => none }
def asciiTrimRow : OpenClaim := { program := "ytaggaldpigeamaadoor", sum := "1e0c550622feaf948c920f2e77772746fe46466054bfbc460194b2b70f6f0017", func := "canary/canarylaw01.AsciiTrim", spec := "asciiTrim", inPlace := ["internal/bytealg.IndexByteString", "internal/bytealg.CountString", "internal/bytealg.IndexString"], named := ["unicode/utf8.first", "unicode/utf8.acceptRanges", "internal/bytealg.MaxLen"], apart := false, laid := [("unicode/utf8.acceptRanges", laid_unicode_utf8_acceptRanges), ("unicode/utf8.first", laid_unicode_utf8_first)] }
def AsciiTrimSaid : Prop := asciiTrimRow.holds Tryd.pinned (OpenSpec.ofChange asciiTrimSpec)

/-- ITS FALSE NEIGHBOUR: 'it returns false'. Refute it at one input. -/
def asciiTrimWrong : ChangeSpec := { name := "asciiTrim", fn := fun _ => fun
  | [d1, d2, d3] => { results := [.lit (.bool false)], args := [d1, d2, d3] }
  | _ => none }
def AsciiTrimWrongFalsely : Prop := asciiTrimRow.holds Tryd.pinned (OpenSpec.ofChange asciiTrimWrong)

/-- 'canarylaw01.AsciiList': WHATEVER THE INPUT: true; the input reads as it did. -/
def asciiListSpec : ChangeSpec := { name := "asciiList", fn := fun _ => fun
  | [d1, d2] => { results := [.lit (.bool true)], args := [d1, d2] }
  | _ => none }
def asciiListRow : OpenClaim := { program := "ytaggaldpigeamaadoor", sum := "1e0c550622feaf948c920f2e77772746fe46466054bfbc460194b2b70f6f0017", func := "canary/canarylaw01.AsciiList", spec := "asciiList", inPlace := ["internal/bytealg.IndexByteString", "internal/bytealg.CountString", "internal/bytealg.IndexString"], named := ["unicode/utf8.first", "unicode/utf8.acceptRanges", "internal/bytealg.MaxLen"], apart := false, laid := [("unicode/utf8.acceptRanges", laid_unicode_utf8_acceptRanges), ("unicode/utf8.first", laid_unicode_utf8_first)] }
def AsciiListSaid : Prop := asciiListRow.holds Tryd.pinned (OpenSpec.ofChange asciiListSpec)

/-- ITS FALSE NEIGHBOUR: 'it returns false'. Refute it at one input. -/
def asciiListWrong : ChangeSpec := { name := "asciiList", fn := fun _ => fun
  | [d1, d2] => { results := [.lit (.bool false)], args := [d1, d2] }
  | _ => none }
def AsciiListWrongFalsely : Prop := asciiListRow.holds Tryd.pinned (OpenSpec.ofChange asciiListWrong)

/-- 'canarylaw06.FieldValues': WHATEVER THE INPUT: true; the input reads as it did. -/
def fieldValuesSpec : ChangeSpec := { name := "fieldValues", fn := fun _ => fun
  | [d1, d2, d3, d4, d5] => { results := [.lit (.bool true)], args := [d1, d2, d3, d4, d5] }
  | _ => none }
def fieldValuesRow : OpenClaim := { program := "ytaggaldpigeamaadoor", sum := "1e0c550622feaf948c920f2e77772746fe46466054bfbc460194b2b70f6f0017", func := "canary/canarylaw06.FieldValues", spec := "fieldValues", inPlace := ["internal/bytealg.IndexByteString", "internal/bytealg.CountString", "internal/bytealg.IndexString"], named := ["unicode/utf8.first", "unicode/utf8.acceptRanges", "internal/bytealg.MaxLen"], apart := false, laid := [("unicode/utf8.acceptRanges", laid_unicode_utf8_acceptRanges), ("unicode/utf8.first", laid_unicode_utf8_first)] }
def FieldValuesSaid : Prop := fieldValuesRow.holds Tryd.pinned (OpenSpec.ofChange fieldValuesSpec)

/-- ITS FALSE NEIGHBOUR: 'it returns false'. Refute it at one input. -/
def fieldValuesWrong : ChangeSpec := { name := "fieldValues", fn := fun _ => fun
  | [d1, d2, d3, d4, d5] => { results := [.lit (.bool false)], args := [d1, d2, d3, d4, d5] }
  | _ => none }
def FieldValuesWrongFalsely : Prop := fieldValuesRow.holds Tryd.pinned (OpenSpec.ofChange fieldValuesWrong)

/- THE SECOND FORM. 'bulk': how many values and letters a reading holds, each counted each time it is reached (what is shared counts as often as it is met; a slice's spare places count too). A statement '..UptoSaid' is the law's where the arguments, and the package variables that the reading takes, are together of bulk at most 1048576: NARROWER than '..Said'. Prove '..Said' where nothing that the law and all that it calls make is longer than what came in: it says more and counts as full. Else prove '..UptoSaid'. A law counts once. -/
mutual
def uptoBulk {H : Type} : DataW H → Nat
  | .lit (.string bytes) => bytes.length + 1
  | .lit _ => 1
  | .nil => 1
  | .ptr d => uptoBulk d + 1
  | .slice elems spare => uptoBulkAll elems + uptoBulkAll spare + 1
  | .agg parts => uptoBulkAll parts + 1
  | .iface _ d => uptoBulk d + 1
  | .map entries => uptoBulkEntries entries + 1
  | .held _ => 1
def uptoBulkAll {H : Type} : List (DataW H) → Nat
  | [] => 0
  | d :: r => uptoBulk d + uptoBulkAll r
def uptoBulkEntries {H : Type} : List (Lit × DataW H) → Nat
  | [] => 0
  | x :: r => uptoBulkEntry x + uptoBulkEntries r
def uptoBulkEntry {H : Type} : Lit × DataW H → Nat
  | (.string bytes, d) => bytes.length + uptoBulk d + 1
  | (_, d) => uptoBulk d + 1
 end
def uptoSmall : (H : Type) → List (DataW H) → Bool := fun _ ds => decide (uptoBulkAll ds ≤ 1048576)
def OpenSpec.upto (s : _root_.Go.ChangeSpec) : _root_.Go.OpenSpec := { _root_.Go.OpenSpec.ofChange s with cond := some uptoSmall }

/-- 'canarylaw01.AsciiLower', WHERE WHAT IT READS IS OF BULK AT MOST 1048576: true; the input reads as it did. -/
def asciiLowerUptoRow : OpenClaim := { program := "ytaggaldpigeamaadoor", sum := "1e0c550622feaf948c920f2e77772746fe46466054bfbc460194b2b70f6f0017", func := "canary/canarylaw01.AsciiLower", spec := "asciiLower", inPlace := ["internal/bytealg.IndexByteString", "internal/bytealg.CountString", "internal/bytealg.IndexString"], named := ["unicode/utf8.first", "unicode/utf8.acceptRanges", "internal/bytealg.MaxLen"], apart := false, laid := [("unicode/utf8.acceptRanges", laid_unicode_utf8_acceptRanges), ("unicode/utf8.first", laid_unicode_utf8_first)], narrowed := true }
def AsciiLowerUptoSaid : Prop := asciiLowerUptoRow.holds Tryd.pinned (OpenSpec.upto asciiLowerSpec)

/-- 'canarylaw01.AsciiToken', WHERE WHAT IT READS IS OF BULK AT MOST 1048576: true; the input reads as it did. -/
def asciiTokenUptoRow : OpenClaim := { program := "ytaggaldpigeamaadoor", sum := "1e0c550622feaf948c920f2e77772746fe46466054bfbc460194b2b70f6f0017", func := "canary/canarylaw01.AsciiToken", spec := "asciiToken", inPlace := ["internal/bytealg.IndexByteString", "internal/bytealg.CountString", "internal/bytealg.IndexString"], named := ["unicode/utf8.first", "unicode/utf8.acceptRanges", "internal/bytealg.MaxLen"], apart := false, laid := [("unicode/utf8.acceptRanges", laid_unicode_utf8_acceptRanges), ("unicode/utf8.first", laid_unicode_utf8_first)], narrowed := true }
def AsciiTokenUptoSaid : Prop := asciiTokenUptoRow.holds Tryd.pinned (OpenSpec.upto asciiTokenSpec)

/-- 'canarylaw01.AsciiBytes', WHERE WHAT IT READS IS OF BULK AT MOST 1048576: true; the input reads as it did. -/
def asciiBytesUptoRow : OpenClaim := { program := "ytaggaldpigeamaadoor", sum := "1e0c550622feaf948c920f2e77772746fe46466054bfbc460194b2b70f6f0017", func := "canary/canarylaw01.AsciiBytes", spec := "asciiBytes", inPlace := ["internal/bytealg.IndexByteString", "internal/bytealg.CountString", "internal/bytealg.IndexString"], named := ["unicode/utf8.first", "unicode/utf8.acceptRanges", "internal/bytealg.MaxLen"], apart := false, laid := [("unicode/utf8.acceptRanges", laid_unicode_utf8_acceptRanges), ("unicode/utf8.first", laid_unicode_utf8_first)], narrowed := true }
def AsciiBytesUptoSaid : Prop := asciiBytesUptoRow.holds Tryd.pinned (OpenSpec.upto asciiBytesSpec)

/-- 'canarylaw01.AsciiTrim', WHERE WHAT IT READS IS OF BULK AT MOST 1048576: true; the input reads as it did. -/
def asciiTrimUptoRow : OpenClaim := { program := "ytaggaldpigeamaadoor", sum := "1e0c550622feaf948c920f2e77772746fe46466054bfbc460194b2b70f6f0017", func := "canary/canarylaw01.AsciiTrim", spec := "asciiTrim", inPlace := ["internal/bytealg.IndexByteString", "internal/bytealg.CountString", "internal/bytealg.IndexString"], named := ["unicode/utf8.first", "unicode/utf8.acceptRanges", "internal/bytealg.MaxLen"], apart := false, laid := [("unicode/utf8.acceptRanges", laid_unicode_utf8_acceptRanges), ("unicode/utf8.first", laid_unicode_utf8_first)], narrowed := true }
def AsciiTrimUptoSaid : Prop := asciiTrimUptoRow.holds Tryd.pinned (OpenSpec.upto asciiTrimSpec)

/-- 'canarylaw01.AsciiList', WHERE WHAT IT READS IS OF BULK AT MOST 1048576: true; the input reads as it did. -/
def asciiListUptoRow : OpenClaim := { program := "ytaggaldpigeamaadoor", sum := "1e0c550622feaf948c920f2e77772746fe46466054bfbc460194b2b70f6f0017", func := "canary/canarylaw01.AsciiList", spec := "asciiList", inPlace := ["internal/bytealg.IndexByteString", "internal/bytealg.CountString", "internal/bytealg.IndexString"], named := ["unicode/utf8.first", "unicode/utf8.acceptRanges", "internal/bytealg.MaxLen"], apart := false, laid := [("unicode/utf8.acceptRanges", laid_unicode_utf8_acceptRanges), ("unicode/utf8.first", laid_unicode_utf8_first)], narrowed := true }
def AsciiListUptoSaid : Prop := asciiListUptoRow.holds Tryd.pinned (OpenSpec.upto asciiListSpec)

/-- 'canarylaw06.FieldValues', WHERE WHAT IT READS IS OF BULK AT MOST 1048576: true; the input reads as it did. -/
def fieldValuesUptoRow : OpenClaim := { program := "ytaggaldpigeamaadoor", sum := "1e0c550622feaf948c920f2e77772746fe46466054bfbc460194b2b70f6f0017", func := "canary/canarylaw06.FieldValues", spec := "fieldValues", inPlace := ["internal/bytealg.IndexByteString", "internal/bytealg.CountString", "internal/bytealg.IndexString"], named := ["unicode/utf8.first", "unicode/utf8.acceptRanges", "internal/bytealg.MaxLen"], apart := false, laid := [("unicode/utf8.acceptRanges", laid_unicode_utf8_acceptRanges), ("unicode/utf8.first", laid_unicode_utf8_first)], narrowed := true }
def FieldValuesUptoSaid : Prop := fieldValuesUptoRow.holds Tryd.pinned (OpenSpec.upto fieldValuesSpec)

end Rows
end Go.Proofs.YtaggaldpigeamaaDoor
