/-
  DERIVED. GIVEN WITH THE SEED: THE CARDS: each row of YthohdgjjlkeclaaDoorRows.lean that lists a variable, with what it lists TIED to the program's text (the seventh form; the later family's looks); each row that meets fmt, with fmt's text TOLD by the authors' own Lean function (tested against real Go, not proved from fmt's source: count such statements apart). THE CARD IS WHAT COUNTS. Prove the row's statement (the work); the ties are given (YthohdgjjlkeclaaDoorTie.lean); close each card by the builder's one call (the guide's Derived/Test/ToyasCard.lean, 'card_holds'). Laid BY PROGRAM, IN A SANDBOX (cutbox-door.mjs). By AI agents, Wed Nov 11 2026. No macro, syntax, notation, axiom, sorry.
-/
import Derived.Test.YthohdgjjlkeclaaDoorRows
import GoSem.ClaimSeven
namespace Go.Proofs.YthohdgjjlkeclaaDoor
namespace Rows

/-- THE TIED CARD OF 'canarylaw13.HopForward'. -/
def hopForwardCard : Claim7 := { stood := { row := hopForwardRow, standIns := [], harness := (true, "7ed4da20f87a2623a4e53b40e470b71ef18d07deca540b2eaf471076e608ce37"), looks := false }, kinds := [], alts := [], laidByText := true, laidKinds := [.data, .data, .data, .data, .pinned], laidTests := true, laidLooks := .later }
def HopForwardCardSaid : Prop := Claim7.holds Tryd.pinned (.plain (OpenSpec.ofChange hopForwardSpec)) hopForwardCard

/-- THE SECOND FORM's CARD OF 'canarylaw13.HopForward'. -/
def hopForwardUptoCard : Claim7 := { stood := { row := hopForwardUptoRow, standIns := [], harness := (true, "7ed4da20f87a2623a4e53b40e470b71ef18d07deca540b2eaf471076e608ce37"), looks := false }, kinds := [], alts := [], laidByText := true, laidKinds := [.data, .data, .data, .data, .pinned], laidTests := true, laidLooks := .later }
def HopForwardUptoCardSaid : Prop := Claim7.holds Tryd.pinned (.plain (OpenSpec.upto hopForwardSpec)) hopForwardUptoCard
end Rows
end Go.Proofs.YthohdgjjlkeclaaDoor
