/-
  DERIVED. GIVEN WITH THE SEED: THE CARDS: each row of YtajohphiclbjkaaDoorRRRows.lean that lists a variable, with what it lists TIED to the program's text (the seventh form; the later family's looks); each row that meets fmt, with fmt's text TOLD by the authors' own Lean function (tested against real Go, not proved from fmt's source: count such statements apart). THE CARD IS WHAT COUNTS. Prove the row's statement (the work); the ties are given (YtajohphiclbjkaaDoorRRTie.lean); close each card by the builder's one call (the guide's Derived/Test/ToyasCard.lean, 'card_holds'). Laid BY PROGRAM, IN A SANDBOX (cutbox-door.mjs). By AI agents, Wed Nov 11 2026. No macro, syntax, notation, axiom, sorry.
-/
import Derived.Test.YtajohphiclbjkaaDoorRRRows
import GoSem.ClaimSeven
namespace Go.Proofs.YtajohphiclbjkaaDoorRR
namespace Rows

/-- THE TIED CARD OF 'canarylaw07.LineRequest'. -/
def lineRequestCard : Claim7 := { stood := { row := lineRequestRow, standIns := [], harness := (true, "3242550938c6da2f0b5b794a35be723b024cbbf9ed4c3e650c3900d805629521"), looks := false }, kinds := [], alts := [], laidByText := true, laidKinds := [.data, .pinned], laidTests := true, laidLooks := .later }
def LineRequestCardSaid : Prop := Claim7.holds Tryd.pinned (.plain (OpenSpec.ofChange lineRequestSpec)) lineRequestCard

/-- THE TIED CARD OF 'canarylaw07.LineStatus'. -/
def lineStatusCard : Claim7 := { stood := { row := lineStatusRow, standIns := [], harness := (true, "3242550938c6da2f0b5b794a35be723b024cbbf9ed4c3e650c3900d805629521"), looks := false }, kinds := [], alts := [], laidByText := true, laidKinds := [.data, .pinned], laidTests := true, laidLooks := .later }
def LineStatusCardSaid : Prop := Claim7.holds Tryd.pinned (.plain (OpenSpec.ofChange lineStatusSpec)) lineStatusCard

/-- THE TIED CARD OF 'canarylaw07.LineTarget'. -/
def lineTargetCard : Claim7 := { stood := { row := lineTargetRow, standIns := [], harness := (true, "3242550938c6da2f0b5b794a35be723b024cbbf9ed4c3e650c3900d805629521"), looks := false }, kinds := [], alts := [], laidByText := true, laidKinds := [.data, .pinned], laidTests := true, laidLooks := .later }
def LineTargetCardSaid : Prop := Claim7.holds Tryd.pinned (.plain (OpenSpec.ofChange lineTargetSpec)) lineTargetCard

/-- THE TIED CARD OF 'canarylaw07.LineFormat'. -/
def lineFormatCard : Claim7 := { stood := { row := lineFormatRow, standIns := [], harness := (true, "3242550938c6da2f0b5b794a35be723b024cbbf9ed4c3e650c3900d805629521"), looks := false }, kinds := [], alts := [], laidByText := true, laidKinds := [.data, .data, .data, .data, .pinned], laidTests := true, laidLooks := .later }
def LineFormatCardSaid : Prop := Claim7.holds Tryd.pinned (.plain (OpenSpec.ofChange lineFormatSpec)) lineFormatCard

/-- THE TIED CARD OF 'canarylaw07.LineTwice'. -/
def lineTwiceCard : Claim7 := { stood := { row := lineTwiceRow, standIns := [], harness := (true, "3242550938c6da2f0b5b794a35be723b024cbbf9ed4c3e650c3900d805629521"), looks := false }, kinds := [], alts := [], laidByText := true, laidKinds := [.data, .data, .data, .data, .pinned], laidTests := true, laidLooks := .later }
def LineTwiceCardSaid : Prop := Claim7.holds Tryd.pinned (.plain (OpenSpec.ofChange lineTwiceSpec)) lineTwiceCard

/-- THE TIED CARD OF 'canarylaw13.HopStrip'. -/
def hopStripCard : Claim7 := { stood := { row := hopStripRow, standIns := [], harness := (true, "3242550938c6da2f0b5b794a35be723b024cbbf9ed4c3e650c3900d805629521"), looks := false }, kinds := [], alts := [], laidByText := true, laidKinds := [.data, .data, .data, .data, .pinned], laidTests := true, laidLooks := .later }
def HopStripCardSaid : Prop := Claim7.holds Tryd.pinned (.plain (OpenSpec.ofChange hopStripSpec)) hopStripCard

/-- THE TIED CARD OF 'canarylaw13.HopEndToEnd'. -/
def hopEndToEndCard : Claim7 := { stood := { row := hopEndToEndRow, standIns := [], harness := (true, "3242550938c6da2f0b5b794a35be723b024cbbf9ed4c3e650c3900d805629521"), looks := false }, kinds := [], alts := [], laidByText := true, laidKinds := [.data, .data, .data, .data, .pinned], laidTests := true, laidLooks := .later }
def HopEndToEndCardSaid : Prop := Claim7.holds Tryd.pinned (.plain (OpenSpec.ofChange hopEndToEndSpec)) hopEndToEndCard

/-- THE TIED CARD OF 'canarylaw12.WriterMake'. -/
def writerMakeCard : Claim7 := { stood := { row := writerMakeRow, standIns := [], harness := (true, "3242550938c6da2f0b5b794a35be723b024cbbf9ed4c3e650c3900d805629521"), looks := false }, kinds := [], alts := [], laidByText := true, laidKinds := [.data, .data, .data, .data], laidTests := true, laidLooks := .later }
def WriterMakeCardSaid : Prop := Claim7.holds Tryd.pinned (.plain (OpenSpec.ofChange writerMakeSpec)) writerMakeCard

/-- THE TIED CARD OF 'canarylaw12.WriterWrite'. -/
def writerWriteCard : Claim7 := { stood := { row := writerWriteRow, standIns := [], harness := (true, "3242550938c6da2f0b5b794a35be723b024cbbf9ed4c3e650c3900d805629521"), looks := false }, kinds := [], alts := [], laidByText := true, laidKinds := [.data, .data, .data, .data], laidTests := true, laidLooks := .later }
def WriterWriteCardSaid : Prop := Claim7.holds Tryd.pinned (.plain (OpenSpec.ofChange writerWriteSpec)) writerWriteCard

/-- THE SECOND FORM's CARD OF 'canarylaw07.LineRequest'. -/
def lineRequestUptoCard : Claim7 := { stood := { row := lineRequestUptoRow, standIns := [], harness := (true, "3242550938c6da2f0b5b794a35be723b024cbbf9ed4c3e650c3900d805629521"), looks := false }, kinds := [], alts := [], laidByText := true, laidKinds := [.data, .pinned], laidTests := true, laidLooks := .later }
def LineRequestUptoCardSaid : Prop := Claim7.holds Tryd.pinned (.plain (OpenSpec.upto lineRequestSpec)) lineRequestUptoCard

/-- THE SECOND FORM's CARD OF 'canarylaw07.LineStatus'. -/
def lineStatusUptoCard : Claim7 := { stood := { row := lineStatusUptoRow, standIns := [], harness := (true, "3242550938c6da2f0b5b794a35be723b024cbbf9ed4c3e650c3900d805629521"), looks := false }, kinds := [], alts := [], laidByText := true, laidKinds := [.data, .pinned], laidTests := true, laidLooks := .later }
def LineStatusUptoCardSaid : Prop := Claim7.holds Tryd.pinned (.plain (OpenSpec.upto lineStatusSpec)) lineStatusUptoCard

/-- THE SECOND FORM's CARD OF 'canarylaw07.LineTarget'. -/
def lineTargetUptoCard : Claim7 := { stood := { row := lineTargetUptoRow, standIns := [], harness := (true, "3242550938c6da2f0b5b794a35be723b024cbbf9ed4c3e650c3900d805629521"), looks := false }, kinds := [], alts := [], laidByText := true, laidKinds := [.data, .pinned], laidTests := true, laidLooks := .later }
def LineTargetUptoCardSaid : Prop := Claim7.holds Tryd.pinned (.plain (OpenSpec.upto lineTargetSpec)) lineTargetUptoCard

/-- THE SECOND FORM's CARD OF 'canarylaw07.LineFormat'. -/
def lineFormatUptoCard : Claim7 := { stood := { row := lineFormatUptoRow, standIns := [], harness := (true, "3242550938c6da2f0b5b794a35be723b024cbbf9ed4c3e650c3900d805629521"), looks := false }, kinds := [], alts := [], laidByText := true, laidKinds := [.data, .data, .data, .data, .pinned], laidTests := true, laidLooks := .later }
def LineFormatUptoCardSaid : Prop := Claim7.holds Tryd.pinned (.plain (OpenSpec.upto lineFormatSpec)) lineFormatUptoCard

/-- THE SECOND FORM's CARD OF 'canarylaw07.LineTwice'. -/
def lineTwiceUptoCard : Claim7 := { stood := { row := lineTwiceUptoRow, standIns := [], harness := (true, "3242550938c6da2f0b5b794a35be723b024cbbf9ed4c3e650c3900d805629521"), looks := false }, kinds := [], alts := [], laidByText := true, laidKinds := [.data, .data, .data, .data, .pinned], laidTests := true, laidLooks := .later }
def LineTwiceUptoCardSaid : Prop := Claim7.holds Tryd.pinned (.plain (OpenSpec.upto lineTwiceSpec)) lineTwiceUptoCard

/-- THE SECOND FORM's CARD OF 'canarylaw13.HopStrip'. -/
def hopStripUptoCard : Claim7 := { stood := { row := hopStripUptoRow, standIns := [], harness := (true, "3242550938c6da2f0b5b794a35be723b024cbbf9ed4c3e650c3900d805629521"), looks := false }, kinds := [], alts := [], laidByText := true, laidKinds := [.data, .data, .data, .data, .pinned], laidTests := true, laidLooks := .later }
def HopStripUptoCardSaid : Prop := Claim7.holds Tryd.pinned (.plain (OpenSpec.upto hopStripSpec)) hopStripUptoCard

/-- THE SECOND FORM's CARD OF 'canarylaw13.HopEndToEnd'. -/
def hopEndToEndUptoCard : Claim7 := { stood := { row := hopEndToEndUptoRow, standIns := [], harness := (true, "3242550938c6da2f0b5b794a35be723b024cbbf9ed4c3e650c3900d805629521"), looks := false }, kinds := [], alts := [], laidByText := true, laidKinds := [.data, .data, .data, .data, .pinned], laidTests := true, laidLooks := .later }
def HopEndToEndUptoCardSaid : Prop := Claim7.holds Tryd.pinned (.plain (OpenSpec.upto hopEndToEndSpec)) hopEndToEndUptoCard

/-- THE SECOND FORM's CARD OF 'canarylaw12.WriterMake'. -/
def writerMakeUptoCard : Claim7 := { stood := { row := writerMakeUptoRow, standIns := [], harness := (true, "3242550938c6da2f0b5b794a35be723b024cbbf9ed4c3e650c3900d805629521"), looks := false }, kinds := [], alts := [], laidByText := true, laidKinds := [.data, .data, .data, .data], laidTests := true, laidLooks := .later }
def WriterMakeUptoCardSaid : Prop := Claim7.holds Tryd.pinned (.plain (OpenSpec.upto writerMakeSpec)) writerMakeUptoCard

/-- THE SECOND FORM's CARD OF 'canarylaw12.WriterWrite'. -/
def writerWriteUptoCard : Claim7 := { stood := { row := writerWriteUptoRow, standIns := [], harness := (true, "3242550938c6da2f0b5b794a35be723b024cbbf9ed4c3e650c3900d805629521"), looks := false }, kinds := [], alts := [], laidByText := true, laidKinds := [.data, .data, .data, .data], laidTests := true, laidLooks := .later }
def WriterWriteUptoCardSaid : Prop := Claim7.holds Tryd.pinned (.plain (OpenSpec.upto writerWriteSpec)) writerWriteUptoCard
end Rows
end Go.Proofs.YtajohphiclbjkaaDoorRR
