/-
  DERIVED. GIVEN WITH THE SEED: THE CARDS: each row of YtaggaldpigeamaaDoorRows.lean that lists a variable, with what it lists TIED to the program's text (the seventh form; the later family's looks); each row that meets fmt, with fmt's text TOLD by the authors' own Lean function (tested against real Go, not proved from fmt's source: count such statements apart). THE CARD IS WHAT COUNTS. Prove the row's statement (the work); the ties are given (YtaggaldpigeamaaDoorTie.lean); close each card by the builder's one call (the guide's Derived/Test/ToyasCard.lean, 'card_holds'). Laid BY PROGRAM, IN A SANDBOX (cutbox-door.mjs). By AI agents, Wed Nov 11 2026. No macro, syntax, notation, axiom, sorry.
-/
import Derived.Test.YtaggaldpigeamaaDoorRows
import GoSem.ClaimSeven
namespace Go.Proofs.YtaggaldpigeamaaDoor
namespace Rows

/-- THE TIED CARD OF 'canarylaw01.AsciiLower'. -/
def asciiLowerCard : Claim7 := { stood := { row := asciiLowerRow, standIns := [], harness := (true, "381fd53ea4c82b04c70bf0d7806295bd94e4869737018d6e39546159016d3966"), looks := false }, kinds := [], alts := [], laidByText := true, laidKinds := [.data, .pinned], laidTests := true, laidLooks := .later }
def AsciiLowerCardSaid : Prop := Claim7.holds Tryd.pinned (.plain (OpenSpec.ofChange asciiLowerSpec)) asciiLowerCard

/-- THE TIED CARD OF 'canarylaw01.AsciiToken'. -/
def asciiTokenCard : Claim7 := { stood := { row := asciiTokenRow, standIns := [], harness := (true, "381fd53ea4c82b04c70bf0d7806295bd94e4869737018d6e39546159016d3966"), looks := false }, kinds := [], alts := [], laidByText := true, laidKinds := [.data, .pinned], laidTests := true, laidLooks := .later }
def AsciiTokenCardSaid : Prop := Claim7.holds Tryd.pinned (.plain (OpenSpec.ofChange asciiTokenSpec)) asciiTokenCard

/-- THE TIED CARD OF 'canarylaw01.AsciiBytes'. -/
def asciiBytesCard : Claim7 := { stood := { row := asciiBytesRow, standIns := [], harness := (true, "381fd53ea4c82b04c70bf0d7806295bd94e4869737018d6e39546159016d3966"), looks := false }, kinds := [], alts := [], laidByText := true, laidKinds := [.data, .pinned], laidTests := true, laidLooks := .later }
def AsciiBytesCardSaid : Prop := Claim7.holds Tryd.pinned (.plain (OpenSpec.ofChange asciiBytesSpec)) asciiBytesCard

/-- THE TIED CARD OF 'canarylaw01.AsciiTrim'. -/
def asciiTrimCard : Claim7 := { stood := { row := asciiTrimRow, standIns := [], harness := (true, "381fd53ea4c82b04c70bf0d7806295bd94e4869737018d6e39546159016d3966"), looks := false }, kinds := [], alts := [], laidByText := true, laidKinds := [.data, .pinned], laidTests := true, laidLooks := .later }
def AsciiTrimCardSaid : Prop := Claim7.holds Tryd.pinned (.plain (OpenSpec.ofChange asciiTrimSpec)) asciiTrimCard

/-- THE TIED CARD OF 'canarylaw01.AsciiList'. -/
def asciiListCard : Claim7 := { stood := { row := asciiListRow, standIns := [], harness := (true, "381fd53ea4c82b04c70bf0d7806295bd94e4869737018d6e39546159016d3966"), looks := false }, kinds := [], alts := [], laidByText := true, laidKinds := [.data, .pinned], laidTests := true, laidLooks := .later }
def AsciiListCardSaid : Prop := Claim7.holds Tryd.pinned (.plain (OpenSpec.ofChange asciiListSpec)) asciiListCard

/-- THE TIED CARD OF 'canarylaw06.FieldValues'. -/
def fieldValuesCard : Claim7 := { stood := { row := fieldValuesRow, standIns := [], harness := (true, "381fd53ea4c82b04c70bf0d7806295bd94e4869737018d6e39546159016d3966"), looks := false }, kinds := [], alts := [], laidByText := true, laidKinds := [.data, .pinned], laidTests := true, laidLooks := .later }
def FieldValuesCardSaid : Prop := Claim7.holds Tryd.pinned (.plain (OpenSpec.ofChange fieldValuesSpec)) fieldValuesCard

/-- THE SECOND FORM's CARD OF 'canarylaw01.AsciiLower'. -/
def asciiLowerUptoCard : Claim7 := { stood := { row := asciiLowerUptoRow, standIns := [], harness := (true, "381fd53ea4c82b04c70bf0d7806295bd94e4869737018d6e39546159016d3966"), looks := false }, kinds := [], alts := [], laidByText := true, laidKinds := [.data, .pinned], laidTests := true, laidLooks := .later }
def AsciiLowerUptoCardSaid : Prop := Claim7.holds Tryd.pinned (.plain (OpenSpec.upto asciiLowerSpec)) asciiLowerUptoCard

/-- THE SECOND FORM's CARD OF 'canarylaw01.AsciiToken'. -/
def asciiTokenUptoCard : Claim7 := { stood := { row := asciiTokenUptoRow, standIns := [], harness := (true, "381fd53ea4c82b04c70bf0d7806295bd94e4869737018d6e39546159016d3966"), looks := false }, kinds := [], alts := [], laidByText := true, laidKinds := [.data, .pinned], laidTests := true, laidLooks := .later }
def AsciiTokenUptoCardSaid : Prop := Claim7.holds Tryd.pinned (.plain (OpenSpec.upto asciiTokenSpec)) asciiTokenUptoCard

/-- THE SECOND FORM's CARD OF 'canarylaw01.AsciiBytes'. -/
def asciiBytesUptoCard : Claim7 := { stood := { row := asciiBytesUptoRow, standIns := [], harness := (true, "381fd53ea4c82b04c70bf0d7806295bd94e4869737018d6e39546159016d3966"), looks := false }, kinds := [], alts := [], laidByText := true, laidKinds := [.data, .pinned], laidTests := true, laidLooks := .later }
def AsciiBytesUptoCardSaid : Prop := Claim7.holds Tryd.pinned (.plain (OpenSpec.upto asciiBytesSpec)) asciiBytesUptoCard

/-- THE SECOND FORM's CARD OF 'canarylaw01.AsciiTrim'. -/
def asciiTrimUptoCard : Claim7 := { stood := { row := asciiTrimUptoRow, standIns := [], harness := (true, "381fd53ea4c82b04c70bf0d7806295bd94e4869737018d6e39546159016d3966"), looks := false }, kinds := [], alts := [], laidByText := true, laidKinds := [.data, .pinned], laidTests := true, laidLooks := .later }
def AsciiTrimUptoCardSaid : Prop := Claim7.holds Tryd.pinned (.plain (OpenSpec.upto asciiTrimSpec)) asciiTrimUptoCard

/-- THE SECOND FORM's CARD OF 'canarylaw01.AsciiList'. -/
def asciiListUptoCard : Claim7 := { stood := { row := asciiListUptoRow, standIns := [], harness := (true, "381fd53ea4c82b04c70bf0d7806295bd94e4869737018d6e39546159016d3966"), looks := false }, kinds := [], alts := [], laidByText := true, laidKinds := [.data, .pinned], laidTests := true, laidLooks := .later }
def AsciiListUptoCardSaid : Prop := Claim7.holds Tryd.pinned (.plain (OpenSpec.upto asciiListSpec)) asciiListUptoCard

/-- THE SECOND FORM's CARD OF 'canarylaw06.FieldValues'. -/
def fieldValuesUptoCard : Claim7 := { stood := { row := fieldValuesUptoRow, standIns := [], harness := (true, "381fd53ea4c82b04c70bf0d7806295bd94e4869737018d6e39546159016d3966"), looks := false }, kinds := [], alts := [], laidByText := true, laidKinds := [.data, .pinned], laidTests := true, laidLooks := .later }
def FieldValuesUptoCardSaid : Prop := Claim7.holds Tryd.pinned (.plain (OpenSpec.upto fieldValuesSpec)) fieldValuesUptoCard
end Rows
end Go.Proofs.YtaggaldpigeamaaDoor
